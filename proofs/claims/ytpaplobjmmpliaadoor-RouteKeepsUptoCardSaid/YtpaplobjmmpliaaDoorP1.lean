/- What the printers ask of the library's tables. Conditions: none beyond those that each theorem states. Numbers as texts to a base: plain Lean, no program. Contracts of strconv.FormatUint at base 16, below 65536. Conditions: the library's own tables hold what its text lays. What both printers write: plain Lean, no program. Texts as byte strings: plain Lean, no program. Contracts of strconv.Itoa and strings.Join as addr.Print calls them. Conditions: the library's own table holds what its text lays. Contract of addr.Print. Conditions: an address has sixteen bytes; the library's tables hold what its text lays. -/
import Derived.Test.YtpaplobjmmpliaaDoorAd
import Derived.Test.YtpaplobjmmpliaaDoorBc
import Derived.Test.YtpaplobjmmpliaaDoorBf
import Derived.Test.YtpaplobjmmpliaaDoorRo
import Derived.Test.YtpaplobjmmpliaaDoorSh
import Derived.Lib.EndianBits
import Derived.Lib.ItoaNum
import Derived.Lib.Join
import Derived.Lib.SlBytesRow
namespace Go.Proofs.YtpaplobjmmpliaaDoor.Ad
set_option linter.unusedVariables false
set_option linter.unusedSimpArgs false
open Go.RowKit W
/-- The tables that a printer reads, beside Gl. -/
structure Gp (w : World) : Prop where
  gl : Gl w
  tz : w.cell? ⟨3, 15, none⟩ = some (.int .u8 4)
  pow : Lib.TabBelow Tryd.prog w.heap.size w "internal/strconv.uint64pow10" .u64 Lib.pow10Tab
theorem Gp.later {w w' : World} (h : Gp w) (hb : Below w.heap.size w w') : Gp w' := by
  obtain ⟨hl, ht, hp⟩ := h
  exact ⟨hl.later hb, (hb.cell (World.block_lt_of_cell? w _ ht)).trans ht, fun w2 h2 => hp w2 (hb.trans (h2.mono hb.size))⟩
end Go.Proofs.YtpaplobjmmpliaaDoor.Ad
namespace Go.Proofs.YtpaplobjmmpliaaDoor.Ad
set_option linter.unusedVariables false
set_option linter.unusedSimpArgs false
/-- The digit of a number below 36. -/
def digC (d : Nat) : UInt8 := if d < 10 then UInt8.ofNat (48 + d) else UInt8.ofNat (87 + d)
/-- The digits of n to a base of two at least. -/
def textB (b : Nat) (n : Nat) : List UInt8 := if h : n < b ∨ b < 2 then [digC n] else textB b (n / b) ++ [digC (n % b)]
termination_by n
decreasing_by
  have h1 : b ≤ n := by omega
  have h2 : 2 ≤ b := by omega
  exact Nat.div_lt_self (by omega) (by omega)
theorem textB_one {b n : Nat} (h : n < b) : textB b n = [digC n] := by rw [textB, dif_pos (.inl h)]
theorem textB_more {b n : Nat} (h : b ≤ n) (hb : 2 ≤ b) : textB b n = textB b (n / b) ++ [digC (n % b)] := by rw [textB, dif_neg (by omega)]
theorem textB_ten : ∀ n, textB 10 n = Lib.decDigits n := by
  intro n
  induction n using Nat.strongRecOn with
  | _ n ih =>
    by_cases h : n < 10
    · rw [textB_one h, Lib.decDigits, dif_pos h]; unfold digC; rw [if_pos h]
    · rw [textB_more (by omega) (by omega), ih _ (by omega)]
      conv => rhs; rw [Lib.decDigits, dif_neg h]
      unfold digC; rw [if_pos (by omega)]
theorem textB_len16 {n : Nat} (h : n < 65536) : 1 ≤ (textB 16 n).length ∧ (textB 16 n).length ≤ 4 := by
  by_cases h1 : n < 16
  · rw [textB_one h1]; simp
  rw [textB_more (by omega) (by omega)]
  by_cases h2 : n / 16 < 16
  · rw [textB_one h2]; simp
  rw [textB_more (by omega) (by omega)]
  by_cases h3 : n / 16 / 16 < 16
  · rw [textB_one h3]; simp
  rw [textB_more (by omega) (by omega), textB_one (by omega)]; simp
end Go.Proofs.YtpaplobjmmpliaaDoor.Ad
namespace Go.Proofs.YtpaplobjmmpliaaDoor.Ad
set_option linter.unusedVariables false
set_option linter.unusedSimpArgs false
open Go.RowKit W
set_option maxRecDepth 100000 in
set_option maxHeartbeats 4000000 in
theorem tz64_calls (w : World) (hg : Gp w) : Calls Tryd.prog 121 #[.int .u64 16] w fun e w' => e = .returned (.int .i64 4) ∧ w = w' := by
  have ht := hg.tz
  clear hg
  have h1 : bits .and .u64 16 (IntKind.u64.wrap (-16)) = 16 := by decide
  have h2 : IntKind.u64.wrap 4573923408821661840 = 4573923408821661840 := by decide
  go_enter Tryd.func121, Tryd.ntmps121
  go_wp2
  go_ret
  exact ⟨rfl, rfl⟩
set_option maxRecDepth 100000 in
set_option maxHeartbeats 4000000 in
theorem tz_calls (w : World) (hg : Gp w) : Calls Tryd.prog 116 #[.int .u64 16] w fun e w' => e = .returned (.int .i64 4) ∧ w = w' := by
  have HG := Lib.hid hg
  clear hg
  go_enter Tryd.func116, Tryd.ntmps116
  go_wp2_with (go_at_call 121; refine (tz64_calls _ HG.out).mono ?_; rintro e w' ⟨rfl, rfl⟩)
  go_ret
  exact ⟨rfl, rfl⟩
set_option maxRecDepth 100000 in
set_option maxHeartbeats 4000000 in
theorem pow2_calls (w : World) : Calls Tryd.prog 115 #[.int .i64 16] w fun e w' => e = .returned (.bool true) ∧ w = w' := by
  have h1 : bits .and .i64 16 15 = 0 := by decide
  go_enter Tryd.func115, Tryd.ntmps115
  go_wp2
  go_ret
  exact ⟨rfl, rfl⟩
def digits36 : ByteArray := ⟨#[48, 49, 50, 51, 52, 53, 54, 55, 56, 57, 97, 98, 99, 100, 101, 102, 103, 104, 105, 106, 107, 108, 109, 110, 111, 112, 113, 114, 115, 116, 117, 118, 119, 120, 121, 122]⟩
theorem digs (k : Nat) (h : k < 36) : digits36.data.toList.getD k 0 = digC k := by
  have : ∀ k : Fin 36, digits36.data.toList.getD k.val 0 = digC k.val := by decide
  exact this ⟨k, h⟩
theorem digs2 (k : Nat) (h : k < 36) (h2 : k < digits36.size) : digits36[k] = digC k := by
  rw [← digs k h, List.getD_eq_getElem?_getD, List.getElem?_eq_getElem (by simpa using h2)]
  rfl
/-- The buffer of 65 bytes with ds at its end. -/
def bufL (ds : List UInt8) : List UInt8 := List.replicate (65 - ds.length) 0 ++ ds
def bufC (ds : List UInt8) : Array Value := ((bufL ds).map fun b => Value.int .u8 b.toNat).toArray
theorem bufC_nil : bufC [] = Tryd.zeroCells151 := by rfl
theorem bufL_len (ds : List UInt8) (h : ds.length ≤ 65) : (bufL ds).length = 65 := by unfold bufL; simp; omega
theorem bufC_size (ds : List UInt8) (h : ds.length ≤ 65) : (bufC ds).size = 65 := by unfold bufC; simp [bufL_len ds h]
theorem bufC_set (d : UInt8) (ds : List UInt8) (h : ds.length < 65) (i : Nat) (hi : i + ds.length + 1 = 65) (y : Int) (hy : y = (d.toNat : Int)) : (bufC ds).setIfInBounds i (.int .u8 y) = bufC (d :: ds) := by
  subst hy
  unfold bufC bufL
  apply Array.toList_inj.1
  rw [Array.toList_setIfInBounds]
  show List.set _ _ _ = _
  rw [show 65 - ds.length = i + 1 by omega, show 65 - (d :: ds).length = i by simp; omega, List.replicate_succ', List.append_assoc]
  simp only [List.map_append, List.map_cons, List.singleton_append, List.map_replicate]
  rw [List.set_append_right _ _ (by simp)]
  simp
theorem bufC_cell (ds : List UInt8) (h : ds.length ≤ 65) (i : Nat) (hi : i < ds.length) : (bufC ds)[65 - ds.length + i]? = some (.int .u8 ((ds.getD i 0).toNat : Int)) := by
  unfold bufC bufL
  rw [List.getElem?_toArray, List.getElem?_map, List.getElem?_append_right (by simp)]
  simp [hi]
theorem buf_bytes {w : World} {g : Nat} {t : TypeId} {ds : List UInt8} (b : Blk w g t (bufC ds)) (h : ds.length ≤ 65) : Lib.Bytes w g (65 - ds.length) ⟨ds.toArray⟩ := fun i hi => by
  have hi' : i < ds.length := hi
  rw [b.cell]
  refine (bufC_cell ds h i hi').trans ?_
  simp [hi', ByteArray.getElem_eq_getElem_data]
theorem buf_put {W0 wr : World} {g : Nat} {t : TypeId} {ds : List UInt8} {i k : Nat} {y : Int} (r : Put W0 wr g t (bufC ds)) (hk : k < 36) (h : i + ds.length + 1 = 65) (hy : y = (((digits36[k]'hk).toNat : Nat) : Int)) :
    Put W0 (wr.setCell ⟨g, i, none⟩ (.int .u8 y)) g t (bufC (digC k :: ds)) := by
  have := r.set_ i (.int .u8 y)
  rwa [bufC_set (digC k) ds (by omega) i h y (by rw [hy, digs2 k hk hk])] at this
set_option maxRecDepth 100000 in
theorem slice65 (i : Nat) (h : i < 65) (w : World) (g : Nat) : (Instr.sliceAt 151 (.pointer (some ⟨g, 0, none⟩)) (some (.int .i64 (i : Int))) none none).run Tryd.prog w = .ok (.slice (some ⟨g, i, none⟩) (65 - i) (65 - i)) w := by
  have e1 : Tryd.prog.arrayLen 151 = 65 := by rfl
  have e2 : Tryd.prog.elem 151 = 5 := by rfl
  have e3 : (Go.sizeOf 5).run Tryd.prog w = .ok 1 w := by rfl
  rw [run_sliceAt_array_l w 151 _ Tryd.underlying151 .i64 (i : Int) (by omega) (by rw [e1]; omega), e1, e2, e3, Result.andThen_ok, slicedAt, Int.toNat_natCast, if_neg (by omega)]
  unfold Go.Addr.add
  simp
  exact fun h => h.symm
/-- A window of bytes turned into a text. -/
theorem wpList_str {P : Program} {w : World} {ops : Array Oper} {rest : List Oper} {o : Oper} {a : Act} {Q : Exit → Act → World → Prop} (hgd : o.guard = none) (src dst e : TypeId) (hs : P.underlying src = some (.slice e)) (hd : P.underlying dst = some .string) (he : P.underlying e = some (.int .u8)) (x : Operand)
    (ho : o.op = .convert src dst x) (g i n c : Nat) (hx : a.eval x = .slice (some ⟨g, i, none⟩) n c) (s : ByteArray) (hb : Lib.Bytes w g i s) (hn : s.size = n)
    (h : wpList P ops Q rest (a.put o.dst (.string s)) w) : wpList P ops Q (o :: rest) a w := by
  subst hn
  refine wpList_plain hgd fun K hK => ?_
  unfold Oper.wp execOp
  simp only [ho, hx, Sem.run_bind, Lib.run_convert_whole w src e dst hs he hd g i s hb c, Result.andThen_ok, Sem.run_pure]
  exact hK _ _ h
/-- What is laid and what is left. -/
def Laid (n m : Nat) (ds : List UInt8) : Prop := textB 16 n = textB 16 m ++ ds
theorem Laid.step {n m : Nat} {ds : List UInt8} (h : Laid n m ds) (hm : 16 ≤ m) : Laid n (m / 16) (digC (m % 16) :: ds) := by
  unfold Laid at *
  rw [h, textB_more hm (by omega)]; simp
theorem Laid.last {n m : Nat} {ds : List UInt8} (h : Laid n m ds) (hm : m < 16) : textB 16 n = digC m :: ds := by
  unfold Laid at h
  rw [h, textB_one hm]; rfl
theorem textB_pos (b n : Nat) : 1 ≤ (textB b n).length := by
  rw [textB]; split <;> simp
theorem Laid.short {n m : Nat} {ds : List UInt8} (h : Laid n m ds) (hn : n < 65536) : ds.length ≤ 3 := by
  have h1 := (textB_len16 hn).2
  unfold Laid at h
  rw [h] at h1
  have := textB_pos 16 m
  simp at h1; omega
theorem digC_small {k : Nat} (h : k < 36) : (digC k).toNat < 256 := (digC k).toNat_lt
theorem wraps_u64_63' (n : Int) (h₀ : 0 ≤ n) (h₁ : n < 2 ^ 63) : IntKind.u64.wrap n = n := by rw [IntKind.wrap_u64]; omega
theorem and15 (m : Nat) (h : m < 65536) : Go.bits .and .u64 (m : Int) 15 = ((m % 16 : Nat) : Int) := by
  have h := bits_mask .u64 63 (by decide) wraps_u64_63' 4 (by decide) (m : Int) (by omega) (by omega)
  have e : ((2 : Int) ^ 4 - 1) = 15 := by decide
  have e2 : ((2 : Int) ^ 4) = 16 := by decide
  rw [e, e2] at h
  rw [h]
  omega
set_option maxRecDepth 100000 in
set_option maxHeartbeats 4000000 in
theorem formatBits_calls (n : Nat) (hn : n < 65536) (w : World) (hg : Gp w) : Calls Tryd.prog 102 #[.slice none 0 0, .int .u64 n, .int .i64 16, .bool false, .bool false] w fun e w' => e = .returned (.tuple #[.slice none 0 0, .string ⟨(textB 16 n).toArray⟩]) ∧ Below w.heap.size w w' := by
  have HG := Lib.hid hg
  clear hg
  go_enter Tryd.func102, Tryd.ntmps102
  go_upto_region 4 with fail
  refine wp_named fun W hW => ?_
  have hW' : W = w.alloc (.cells (bufC []) 151) := by rw [bufC_nil]; exact hW
  obtain ⟨bk, BW, sW⟩ := box1 hW'
  clear hW hW'
  have GLW := Lib.hid (HG.out.later BW.out)
  go_wp2_with (first | (go_at_call 115; refine (pow2_calls _).mono ?_; rintro e w' ⟨rfl, rfl⟩) | (go_at_call 116; refine (tz_calls _ GLW.out).mono ?_; rintro e w' ⟨rfl, rfl⟩))
  go_loopw [1, 13] (fun u i wr => ∃ (m p : Nat) (ds : List UInt8), u = .int .u64 m ∧ i = .int .i64 p ∧ p + ds.length = 65 ∧ Laid n m ds ∧ m ≤ n ∧ Put W wr w.heap.size 151 (bufC ds)) (fun u _ _ => (intOf u).toNat)
  case atStart => exact ⟨n, 65, [], rfl, rfl, rfl, by simp [Laid], Nat.le_refl _, Put.refl bk.out⟩
  case round =>
    obtain ⟨m, p, ds, rfl, rfl, hp, hl, hm, r1⟩ := hrel
    have R1 := Lib.hid r1
    have BR := Lib.hid r1.blk
    have HL := Lib.hid hl
    have hds := hl.short hn
    clear r1 hl
    by_cases hlt : 16 ≤ m
    · have hlt' : (16 : Int) ≤ m := by omega
      have e0 : decide ((16 : Int) ≤ (m : Int)) = true := decide_eq_true hlt'
      have ha := and15 m (by omega)
      have hsh : ((m : Int) / 2 ^ 4) = ((m / 16 : Nat) : Int) := by omega
      have hk16 : m % 16 < 36 := by omega
      have hkk : ((m % 16 : Nat) : Int) < 36 := by omega
      have hp1 : ((p : Int) - 1) = ((p - 1 : Nat) : Int) := by omega
      have hp2 : p - 1 < 65 := by omega
      have hpb : p ≤ 65 := by omega
      have f1 := BR.out.frozen (p - 1)
      obtain ⟨y1, hy1⟩ : ∃ y, wr.cell? ⟨w.heap.size, p - 1, none⟩ = some y := ⟨_, (BR.out.cell _).trans (Array.getElem?_eq_getElem (by rw [bufC_size ds (by omega)]; omega))⟩
      have HN : Hid (16 ≤ m) := Lib.hid hlt
      clear hlt hlt'
      go_wp2
      refine ⟨⟨m / 16, p - 1, digC (m % 16) :: ds, by go_num, rfl, by simp; omega, HL.out.step HN.out, by omega, ?_⟩, by simp [intOf]; have := HN.out; omega⟩
      exact buf_put R1.out hk16 (by have := HN.out; omega) rfl
    · have hlt' : ¬ ((16 : Int) ≤ m) := by omega
      have e0 : decide ((16 : Int) ≤ (m : Int)) = false := decide_eq_false hlt'
      have hk16 : m < 36 := by omega
      have hkk : (m : Int) < 36 := by omega
      have hp1 : ((p : Int) - 1) = ((p - 1 : Nat) : Int) := by omega
      have hp2 : p - 1 < 65 := by omega
      have hpb : p ≤ 65 := by omega
      have f1 := BR.out.frozen (p - 1)
      obtain ⟨y1, hy1⟩ : ∃ y, wr.cell? ⟨w.heap.size, p - 1, none⟩ = some y := ⟨_, (BR.out.cell _).trans (Array.getElem?_eq_getElem (by rw [bufC_size ds (by omega)]; omega))⟩
      have HT := Lib.hid (HL.out.last (by omega))
      have hsl := slice65 (p - 1) hp2
      obtain ⟨ds', hd⟩ : ∃ ds', digC m :: ds = ds' := ⟨_, rfl⟩
      have hdl : ds'.length = 65 - (p - 1) := by rw [← hd]; simp; omega
      have HD := Lib.hid hd
      clear hlt hlt' hd
      go_wp2
      generalize hW2 : wr.setCell ⟨w.heap.size, p - 1, none⟩ _ = W2
      have hput : Put W W2 w.heap.size 151 (bufC ds') := by
        rw [← hW2, ← HD.out]
        exact buf_put R1.out hk16 (by omega) rfl
      clear hW2
      have hbytes := buf_bytes hput.blk (by omega)
      rw [show 65 - ds'.length = p - 1 by omega] at hbytes
      have hss : (ByteArray.mk ds'.toArray).size = 65 - (p - 1) := (show ds'.toArray.size = _ by simpa using hdl)
      have hcv := Lib.run_convert_whole (P := Tryd.prog) W2 67 5 9 Tryd.underlying67 Tryd.underlying5 Tryd.underlying9 w.heap.size (p - 1) ⟨ds'.toArray⟩ hbytes (65 - (p - 1))
      rw [hss] at hcv
      rw [hcv]
      clear hbytes
      go_wp2
      go_ret2
      exact ⟨by rw [HT.out, HD.out]; rfl, hput.below BW.out (Nat.le_refl _) BW.out.size⟩
set_option maxRecDepth 100000 in
set_option maxHeartbeats 4000000 in
theorem formatIn_calls (n : Nat) (hn : n < 65536) (w : World) (hg : Gp w) : Calls Tryd.prog 74 #[.int .u64 n, .int .i64 16] w fun e w' => e = .returned (.string ⟨(textB 16 n).toArray⟩) ∧ Below w.heap.size w w' := by
  have HG := Lib.hid hg
  clear hg
  go_enter Tryd.func74, Tryd.ntmps74
  go_wp2_with (go_at_call 102; refine (formatBits_calls n hn _ HG.out).mono ?_; rintro e w' ⟨rfl, hb⟩)
  all_goals (go_ret; exact ⟨rfl, hb⟩)
set_option maxRecDepth 100000 in
set_option maxHeartbeats 4000000 in
theorem format_calls (n : Nat) (hn : n < 65536) (w : World) (hg : Gp w) : Calls Tryd.prog 59 #[.int .u64 n, .int .i64 16] w fun e w' => e = .returned (.string ⟨(textB 16 n).toArray⟩) ∧ Below w.heap.size w w' := by
  have HG := Lib.hid hg
  clear hg
  go_enter Tryd.func59, Tryd.ntmps59
  go_wp2_with (go_at_call 74; refine (formatIn_calls n hn _ HG.out).mono ?_; rintro e w' ⟨rfl, hb⟩)
  all_goals (go_ret; exact ⟨rfl, hb⟩)
end Go.Proofs.YtpaplobjmmpliaaDoor.Ad
namespace Go.Proofs.YtpaplobjmmpliaaDoor.Ad
set_option linter.unusedVariables false
set_option linter.unusedSimpArgs false
/-- The i-th group of two bytes. -/
def grp (b : List UInt8) (i : Nat) : Nat := (b.getD (2 * i) 0).toNat * 256 + (b.getD (2 * i + 1) 0).toNat
theorem grp_lt (b : List UInt8) (i : Nat) : grp b i < 65536 := by
  unfold grp
  have := (b.getD (2 * i) 0).toNat_lt
  have := (b.getD (2 * i + 1) 0).toNat_lt
  omega
theorem byte_zero (x : UInt8) : x.toNat = 0 ↔ x = 0 := ⟨fun h => UInt8.toNat.inj (by simpa using h), fun h => by rw [h]; rfl⟩
theorem grp_zero (b : List UInt8) (i : Nat) : grp b i = 0 ↔ b.getD (2 * i) 0 = 0 ∧ b.getD (2 * i + 1) 0 = 0 := by
  rw [← byte_zero, ← byte_zero]; unfold grp; omega
/-- How many groups are 0 from the i-th on. -/
def runV (b : List UInt8) (i : Nat) : Nat := if h : i < 8 ∧ grp b i = 0 then runV b (i + 1) + 1 else 0
termination_by 8 - i
theorem runV_yes {b : List UInt8} {i : Nat} (h : i < 8) (h2 : grp b i = 0) : runV b i = runV b (i + 1) + 1 := by rw [runV, dif_pos ⟨h, h2⟩]
theorem runV_no {b : List UInt8} {i : Nat} (h : ¬ (i < 8 ∧ grp b i = 0)) : runV b i = 0 := by rw [runV, dif_neg h]
theorem runV_le (b : List UInt8) : ∀ n i, 8 - i ≤ n → runV b i ≤ 8 - i
  | 0, i, h => by rw [runV_no (by omega)]; omega
  | n + 1, i, h => by
    by_cases h1 : i < 8 ∧ grp b i = 0
    · rw [runV_yes h1.1 h1.2]; have := runV_le b n (i + 1) (by omega); omega
    · rw [runV_no h1]; omega
theorem runV_le8 (b : List UInt8) (i : Nat) : runV b i ≤ 8 - i := runV_le b _ i (Nat.le_refl _)
theorem runV_at (b : List UInt8) : ∀ k i, k < runV b i → i + k < 8 ∧ grp b (i + k) = 0
  | 0, i, h => by
    by_cases h1 : i < 8 ∧ grp b i = 0
    · exact h1
    · rw [runV_no h1] at h; omega
  | k + 1, i, h => by
    by_cases h1 : i < 8 ∧ grp b i = 0
    · rw [runV_yes h1.1 h1.2] at h
      have := runV_at b k (i + 1) (by omega)
      rwa [show i + 1 + k = i + (k + 1) by omega] at this
    · rw [runV_no h1] at h; omega
/-- n groups from the i-th on, a colon between each two. -/
def joinG (b : List UInt8) (i n : Nat) : List UInt8 := Lib.join ((List.range' i n).map fun k => textB 16 (grp b k)) [58]
theorem joinTail_app (sep : List UInt8) : ∀ (r s : List (List UInt8)), Lib.joinTail sep (r ++ s) = Lib.joinTail sep r ++ Lib.joinTail sep s := by
  intro r s
  unfold Lib.joinTail
  simp
theorem join_snoc (sep x : List UInt8) (l : List (List UInt8)) (h : l ≠ []) : Lib.join (l ++ [x]) sep = Lib.join l sep ++ sep ++ x := by
  cases l with
  | nil => exact absurd rfl h
  | cons y r =>
    rw [List.cons_append, Lib.join_cons, Lib.join_cons, joinTail_app, List.append_assoc, List.append_assoc]
    congr 2
    simp [Lib.joinTail]
theorem joinG_zero (b : List UInt8) (i : Nat) : joinG b i 0 = [] := rfl
theorem joinG_one (b : List UInt8) (i : Nat) : joinG b i 1 = textB 16 (grp b i) := by unfold joinG; exact Lib.join_one _ _
theorem joinG_succ (b : List UInt8) (i n : Nat) (h : 0 < n) : joinG b i (n + 1) = joinG b i n ++ [58] ++ textB 16 (grp b (i + n)) := by
  unfold joinG
  rw [List.range'_concat, List.map_append, List.map_singleton, Nat.one_mul]
  exact join_snoc _ _ _ (by cases n with | zero => omega | succ n => simp [List.range'_succ])
/-- The longest run so far: where, and how long. -/
def bestTo (b : List UInt8) : Nat → Nat × Nat
  | 0 => (0, 1)
  | k + 1 => if (bestTo b k).2 < runV b k then (k, runV b k) else bestTo b k
/-- The first of the longest runs of two at least; (0, 1): none. -/
def best (b : List UInt8) : Nat × Nat := bestTo b 8
theorem bestTo_spec (b : List UInt8) : ∀ k, (bestTo b k = (0, 1) ∧ ∀ i, i < k → runV b i ≤ 1) ∨
    (2 ≤ (bestTo b k).2 ∧ (bestTo b k).1 < k ∧ runV b (bestTo b k).1 = (bestTo b k).2 ∧ (∀ i, i < k → runV b i ≤ (bestTo b k).2) ∧ ∀ i, i < (bestTo b k).1 → runV b i < (bestTo b k).2)
  | 0 => .inl ⟨rfl, fun i h => by omega⟩
  | k + 1 => by
    have ih := bestTo_spec b k
    unfold bestTo
    by_cases h : (bestTo b k).2 < runV b k
    · rw [if_pos h]
      refine .inr ⟨?_, by show k < k + 1; omega, rfl, fun i hi => ?_, fun i hi => ?_⟩
      · show 2 ≤ runV b k
        rcases ih with ⟨h1, _⟩ | ⟨h1, _⟩
        · rw [h1] at h; exact h
        · omega
      · show runV b i ≤ runV b k
        by_cases hik : i = k
        · rw [hik]; exact Nat.le_refl _
        · rcases ih with ⟨h1, h2⟩ | ⟨h1, _, _, h2, _⟩
          · have := h2 i (by omega); rw [h1] at h; simp at h; omega
          · have := h2 i (by omega); omega
      · show runV b i < runV b k
        rcases ih with ⟨h1, h2⟩ | ⟨h1, _, _, h2, _⟩
        · have := h2 i hi; rw [h1] at h; simp at h; omega
        · have := h2 i hi; omega
    · rw [if_neg h]
      rcases ih with ⟨h1, h2⟩ | ⟨h1, h3, h4, h2, h5⟩
      · refine .inl ⟨h1, fun i hi => ?_⟩
        by_cases hik : i = k
        · rw [hik]; rw [h1] at h; simp at h; omega
        · exact h2 i (by omega)
      · refine .inr ⟨h1, by omega, h4, fun i hi => ?_, h5⟩
        by_cases hik : i = k
        · rw [hik]; omega
        · exact h2 i (by omega)
theorem best_none {b : List UInt8} (h : ∀ i, i < 8 → runV b i ≤ 1) : best b = (0, 1) := by
  rcases bestTo_spec b 8 with ⟨h1, _⟩ | ⟨h1, h2, h3, _⟩
  · exact h1
  · have := h _ h2; omega
theorem best_some {b : List UInt8} {f m : Nat} (hm : 2 ≤ m) (hf : f < 8) (h1 : runV b f = m) (h2 : ∀ i, i < 8 → runV b i ≤ m) (h3 : ∀ i, i < f → runV b i < m) : best b = (f, m) := by
  rcases bestTo_spec b 8 with ⟨g1, g2⟩ | ⟨g1, g2, g3, g4, g5⟩
  · have := g2 f hf; omega
  · have e2 : (bestTo b 8).2 = m := by have := g4 f hf; have := h2 _ g2; omega
    have e1 : (bestTo b 8).1 = f := by
      rcases Nat.lt_trichotomy (bestTo b 8).1 f with h | h | h
      · have := h3 _ h; omega
      · exact h
      · have := g5 _ h; omega
    unfold best
    rw [← e1, ← e2]
theorem best_fits (b : List UInt8) : (best b = (0, 1)) ∨ (2 ≤ (best b).2 ∧ (best b).1 + (best b).2 ≤ 8 ∧ runV b (best b).1 = (best b).2) := by
  rcases bestTo_spec b 8 with ⟨g1, g2⟩ | ⟨g1, g2, g3, g4, g5⟩
  · exact .inl g1
  · refine .inr ⟨g1, ?_, g3⟩
    have := runV_le8 b (bestTo b 8).1
    unfold best; omega
def print6 (b : List UInt8) : List UInt8 := if (best b).2 = 1 then joinG b 0 8 else joinG b 0 (best b).1 ++ [58, 58] ++ joinG b ((best b).1 + (best b).2) (8 - ((best b).1 + (best b).2))
def print4 (b : List UInt8) : List UInt8 := Lib.join ([0, 1, 2, 3].map fun i => textB 10 (b.getD i 0).toNat) [46]
def printV (a : Addr) : List UInt8 := if a.valid = true then (if a.v = 4 then print4 a.b else print6 a.b) else []
theorem print4_out (b : List UInt8) : print4 b = textB 10 (b.getD 0 0).toNat ++ [46] ++ textB 10 (b.getD 1 0).toNat ++ [46] ++ textB 10 (b.getD 2 0).toNat ++ [46] ++ textB 10 (b.getD 3 0).toNat := by
  unfold print4
  simp [Lib.join, List.intercalate]
end Go.Proofs.YtpaplobjmmpliaaDoor.Ad
namespace Go.Proofs.YtpaplobjmmpliaaDoor.Ad
set_option linter.unusedVariables false
set_option linter.unusedSimpArgs false
open Go.RowKit W
theorem S_app (a b : List UInt8) : S a ++ S b = S (a ++ b) := by
  apply ByteArray.ext
  rw [ByteArray.data_append]
  exact Array.toList_inj.1 (by simp [S])
theorem textB_le (b n : Nat) : (textB b n).length ≤ n + 1 := by
  induction n using Nat.strongRecOn with
  | _ n ih =>
    by_cases h : n < b ∨ b < 2
    · rw [textB, dif_pos h]; simp
    · rw [textB, dif_neg h]
      have h1 : n / b < n := Nat.div_lt_self (by omega) (by omega)
      have := ih _ h1
      simp; omega
theorem joinG_len (b : List UInt8) (i : Nat) : ∀ n, (joinG b i n).length ≤ 5 * n
  | 0 => by simp [joinG_zero]
  | 1 => by rw [joinG_one]; have := (textB_len16 (grp_lt b i)).2; omega
  | n + 2 => by
    rw [joinG_succ _ _ _ (by omega)]
    have := joinG_len b i (n + 1)
    have := (textB_len16 (grp_lt b (i + (n + 1)))).2
    simp; omega
end Go.Proofs.YtpaplobjmmpliaaDoor.Ad
namespace Go.Proofs.YtpaplobjmmpliaaDoor.Ad
set_option linter.unusedVariables false
set_option linter.unusedSimpArgs false
open Go.RowKit W
theorem grow_below (w : World) (n : Nat) (os : Array Obj) : Below w.heap.size w (Go.Sort.grow (w.drewN n) os) := by
  refine ⟨rfl, rfl, rfl, ?_, fun k hk => ?_⟩
  · show w.heap.size ≤ (w.heap ++ os).size; simp
  · show (w.heap ++ os)[k]? = _; rw [Array.getElem?_append_left hk]
theorem itoa_calls (n : Nat) (hn : n < 65536) (w : World) (hg : Gp w) : Calls Tryd.prog 40 #[.int .i64 n] w fun e w' => e = .returned (.string (S (textB 10 n))) ∧ Below w.heap.size w w' := by
  refine (Tryd.strconv_Itoa (n : Int) (by omega) (by omega) w hg.pow.here).mono fun e w' h => ?_
  obtain ⟨rfl, k, os, rfl⟩ := h
  exact ⟨by rw [Lib.itoa_nonneg, ← textB_ten]; rfl, grow_below _ _ _⟩
/-- The texts of the groups. -/
def gT (b : List UInt8) : List ByteArray := (List.range 8).map fun k => S (textB 16 (grp b k))
theorem gT_get (b : List UInt8) (k : Nat) (h : k < 8) : (gT b)[k]? = some (S (textB 16 (grp b k))) := by
  unfold gT; simp [h]
theorem gT_win (b : List UInt8) (i n : Nat) (h : i + n ≤ 8) : (((gT b).drop i).take n).map (·.data.toList) = (List.range' i n).map fun k => textB 16 (grp b k) := by
  apply List.ext_getElem?
  intro k
  rw [List.getElem?_map, List.getElem?_map]
  by_cases hk : k < n
  · rw [List.getElem?_take_of_lt hk, List.getElem?_drop, gT_get _ _ (by omega), List.getElem?_range' hk]
    simp [S]
  · rw [List.getElem?_eq_none (by simp; omega), List.getElem?_eq_none (by simp; omega)]; rfl
def gC (l : List ByteArray) : Array Value := (l.map Value.string).toArray
theorem joinG_calls (b : List UInt8) (i n c g : Nat) (ad : Option Go.Addr) (h : i + n ≤ 8) (hc : n ≤ c) (ha : 0 < n → ad = some ⟨g, i, none⟩) (w : World) (hb : Blk w g 9 (gC (gT b))) :
    Calls Tryd.prog 58 #[.slice ad n c, .string ⟨#[58]⟩] w fun e w' => e = .returned (.string (S (joinG b i n))) ∧ Below w.heap.size w w' := by
  by_cases h0 : n = 0
  · subst h0
    exact (Tryd.strings_Join_none ad c ⟨#[58]⟩ w).mono fun e w' h => ⟨h.1, h.2 ▸ Below.refl _ _⟩
  · rw [ha (by omega)]
    have hl : (((gT b).drop i).take n).length = n := by unfold gT; simp; omega
    have hj : Lib.join ((((gT b).drop i).take n).map (·.data.toList)) [58] = joinG b i n := by rw [gT_win b i n h]; rfl
    have := Tryd.strings_Join g i c (((gT b).drop i).take n) ⟨#[58]⟩ w (fun j x hj => ?_) hb.lt (by rw [hl]; omega) (by rw [hl]; exact hc) (by
      show (Lib.join _ [58]).length ≤ _
      rw [hj]; have := joinG_len b i n; omega)
    · rw [hl] at this
      refine this.mono fun e w' h => ⟨?_, h.2⟩
      rw [h.1, ← hj]; rfl
    · rw [hb.cell]
      have hjn : j < n := by have := (List.getElem?_eq_some_iff.1 hj).1; rw [hl] at this; exact this
      rw [List.getElem?_take_of_lt hjn, List.getElem?_drop] at hj
      unfold gC
      simp [hj]
theorem join4_calls (b : List UInt8) (g : Nat) (w : World) (hb : Blk w g 9 (gC ([0, 1, 2, 3].map fun i => S (textB 10 (b.getD i 0).toNat)))) :
    Calls Tryd.prog 58 #[.slice (some ⟨g, 0, none⟩) 4 4, .string ⟨#[46]⟩] w fun e w' => e = .returned (.string (S (print4 b))) ∧ Below w.heap.size w w' := by
  have hj : Lib.join (([0, 1, 2, 3].map fun i => S (textB 10 (b.getD i 0).toNat)).map (·.data.toList)) [46] = print4 b := by unfold print4; simp [S_list]
  have h1 : (print4 b).length ≤ 2000 := by
    rw [print4_out]
    have := fun j : Nat => Nat.le_trans (textB_le 10 (b.getD j 0).toNat) (by have := (b.getD j 0).toNat_lt; omega : (b.getD j 0).toNat + 1 ≤ 256)
    have h0 := this 0; have h1 := this 1; have h2 := this 2; have h3 := this 3
    simp only [List.length_append, List.length_singleton]; omega
  have := Tryd.strings_Join g 0 4 ([0, 1, 2, 3].map fun i => S (textB 10 (b.getD i 0).toNat)) ⟨#[46]⟩ w (fun j x hj => by
    rw [hb.cell]; unfold gC; rw [List.getElem?_toArray, List.getElem?_map, Nat.zero_add, hj]; rfl) hb.lt (by simp) (by simp) (by
      show (Lib.join _ [46]).length ≤ _
      rw [hj]; omega)
  refine this.mono fun e w' h => ⟨?_, h.2⟩
  rw [h.1, ← hj]; rfl
theorem text_zero (n : Nat) : ((S (textB 16 n)).toList == [48]) = decide (n = 0) := by
  rw [ByteArray.toList_eq, S_list]
  by_cases h : n = 0
  · subst h; rw [textB_one (by omega)]; decide
  · rw [decide_eq_false h, beq_eq_false_iff_ne]
    intro h2
    by_cases h1 : n < 16
    · rw [textB_one h1] at h2
      have : ∀ k : Fin 16, k.val ≠ 0 → [digC k.val] ≠ [48] := by decide
      exact this ⟨n, h1⟩ h h2
    · rw [textB_more (by omega) (by omega)] at h2
      have h3 := congrArg List.length h2
      have := textB_pos 16 (n / 16)
      simp at h3; rw [h3] at this; simp at this
end Go.Proofs.YtpaplobjmmpliaaDoor.Ad
namespace Go.Proofs.YtpaplobjmmpliaaDoor.Ad
set_option linter.unusedVariables false
set_option linter.unusedSimpArgs false
open Go.RowKit W
/-- Texts laid at the front of n. -/
def sC (n : Nat) (done : List ByteArray) : Array Value := gC (done ++ List.replicate (n - done.length) ⟨#[]⟩)
theorem sC_size {n : Nat} {done : List ByteArray} (h : done.length ≤ n) : (sC n done).size = n := by unfold sC gC; simp; omega
theorem sC_set {n : Nat} {done : List ByteArray} (h : done.length < n) (s : ByteArray) : (sC n done).setIfInBounds done.length (.string s) = sC n (done ++ [s]) := by
  unfold sC gC
  apply Array.toList_inj.1
  rw [Array.toList_setIfInBounds]
  show List.set (List.map _ _) _ _ = _
  rw [show n - done.length = (n - (done ++ [s]).length) + 1 by simp; omega, List.replicate_succ, List.map_append, List.map_cons, List.set_append_right _ _ (by simp)]
  simp
theorem sC_full {n : Nat} {done : List ByteArray} (h : done.length = n) : sC n done = gC done := by
  unfold sC; rw [show n - done.length = 0 by omega]; simp
theorem made_strings (n : Nat) : madeCells (Value.string ⟨#[]⟩).cells n = sC n [] := by
  unfold sC gC madeCells
  apply Array.ext_getElem?
  intro k
  by_cases hk : k < n
  · simp [hk, Value.cells, Nat.mod_one]
  · simp [hk]
set_option maxRecDepth 100000 in
theorem make_strings (n : Nat) (hn : n ≤ 8) (w : World) : (Instr.makeSlice 94 (.int .i64 n) (.int .i64 n)).run Tryd.prog w = .ok (.slice (some ⟨w.heap.size, 0, none⟩) n n) (w.alloc (.cells (sC n []) 9)) := by
  have h : (Tryd.prog.info? 9).map (fun i => (i.zero, i.size, i.bytes)) = some (some (.string ⟨#[]⟩), 1, 16) := by kernel_rfl
  obtain ⟨i, hi, h2⟩ := Option.map_eq_some_iff.1 h
  injection h2 with h3 h4
  injection h4 with h4 h5
  rw [run_makeSlice (P := Tryd.prog) w 94 9 i (.string ⟨#[]⟩) Tryd.underlying94 hi h3 .i64 .i64 n n (by omega) (by omega) (by rw [h4]; omega) (by rw [h5]; omega) (by omega)]
  rw [h4]
  simp only [Int.toNat_natCast, Nat.mul_one]
  rw [made_strings]
theorem or_bytes {x y : Int} (hx1 : 0 ≤ x) (hx2 : x < 256) (hy1 : 0 ≤ y) (hy2 : y < 256) : Go.bits .or .u64 (x * 256) y = x * 256 + y := by
  exact bits_join .u64 64 (by decide) wraps_u64 8 (x * 256) y (by omega) (by omega) (by omega) hy1 (by omega) (by omega)
theorem format_is {n : Nat} {y : Int} (hn : n < 65536) (hy : y = (n : Int)) (w : World) (hg : Gp w) : Calls Tryd.prog 59 #[.int .u64 y, .int .i64 16] w fun e w' => e = .returned (.string (S (textB 16 n))) ∧ Below w.heap.size w w' := by
  subst hy; exact format_calls n hn w hg
set_option maxRecDepth 100000 in
theorem slice_to (g i : Nat) (h : i ≤ 8) (w : World) : (Instr.slice 94 (.slice (some ⟨g, 0, none⟩) 8 8) none (some (.int .i64 (i : Int))) none).run Tryd.prog w = .ok (.slice (some ⟨g, 0, none⟩) i 8) w := by
  have e2 : Tryd.prog.elem 94 = 9 := by kernel_rfl
  have e3 : (Go.sizeOf 9).run Tryd.prog w = .ok 1 w := by kernel_rfl
  rw [run_slice_h w 94 _ 8 8 Tryd.underlying94 .i64 (i : Int) (by omega) (by omega), e2, e3, Result.andThen_ok, sliced, Int.toNat_natCast]
  simp [Go.Addr.add]
set_option maxRecDepth 100000 in
theorem slice_from (g i : Nat) (h : i ≤ 8) : ∃ ad : Option Go.Addr, (∀ w, (Instr.slice 94 (.slice (some ⟨g, 0, none⟩) 8 8) (some (.int .i64 (i : Int))) none none).run Tryd.prog w = .ok (.slice ad (8 - i) (8 - i)) w) ∧ (0 < 8 - i → ad = some ⟨g, i, none⟩) := by
  refine ⟨if 8 = i then some ⟨g, 0, none⟩ else some (if i = 0 then ⟨g, 0, none⟩ else ⟨g, i, none⟩), fun w => ?_, fun h => by rw [if_neg (by omega)]; by_cases h0 : i = 0; rw [h0]; rfl; rw [if_neg h0]⟩
  have e2 : Tryd.prog.elem 94 = 9 := by kernel_rfl
  have e3 : (Go.sizeOf 9).run Tryd.prog w = .ok 1 w := by kernel_rfl
  rw [run_slice_l w 94 _ 8 8 Tryd.underlying94 .i64 (i : Int) (by omega) (by omega), e2, e3, Result.andThen_ok, sliced, Int.toNat_natCast]
  unfold Go.Addr.add
  simp
theorem str_put {W0 wr : World} {g n k : Nat} {done : List ByteArray} {s : ByteArray} (r : Put W0 wr g 9 (sC n done)) (hk : done.length = k) (h : k < n) :
    Put W0 (wr.setCell ⟨g, k, none⟩ (.string s)) g 9 (sC n (done ++ [s])) := by
  subst hk
  have := r.set_ done.length (.string s)
  rwa [sC_set h] at this
theorem str_cell {w : World} {g n k : Nat} {done : List ByteArray} (b : Blk w g 9 (sC n done)) (hd : done.length ≤ n) (h : k < n) : ∃ y, w.cell? ⟨g, k, none⟩ = some y :=
  ⟨_, (b.cell _).trans (Array.getElem?_eq_getElem (by rw [sC_size hd]; exact h))⟩
set_option maxRecDepth 100000 in
set_option maxHeartbeats 4000000 in
theorem print_calls (a : Addr) (ha : a.ok) (w : World) (hg : Gp w) : Calls Tryd.prog 39 #[.agg a.cells] w fun e w' => e = .returned (.string (S (printV a))) ∧ Below w.heap.size w w' := by
  obtain ⟨q, hq⟩ : ∃ q, a.valid = q := ⟨_, rfl⟩
  have HV := Lib.hid hq
  have HG := Lib.hid hg
  clear hg
  cases q
  · have HR : Hid (printV a = []) := Lib.hid (by unfold printV; rw [hq]; rfl)
    clear hq
    go_enter Tryd.func39, Tryd.ntmps39
    go_upto_region 1 with fail
    refine wp_named fun W hW => ?_
    obtain ⟨bk, BW, sW⟩ := box1 hW
    clear hW
    go_wp2_with (first | (refine wpList_load_blk rfl 35 _ rfl w.heap.size 35 _ _ rfl bk.out Tryd.underlying35 rfl (by as_aux_lemma => exact szc ‹_›) ?_) | (go_at_call 27; refine (valid_calls a ha _).mono ?_; rintro e W2 ⟨rfl, hB⟩; rw [HV.out]))
    have BW2 := keep BW hB
    go_ret
    exact ⟨by rw [HR.out]; rfl, BW2.out⟩
  · by_cases h4 : a.v = 4
    · have hmk : ∀ w, (Instr.makeSlice 94 (.int .i64 4) (.int .i64 4)).run Tryd.prog w = .ok (.slice (some ⟨w.heap.size, 0, none⟩) 4 4) (w.alloc (.cells (sC 4 []) 9)) := fun w => make_strings 4 (by omega) w
      have HR : Hid (printV a = print4 a.b) := Lib.hid (by unfold printV; rw [hq, if_pos rfl, if_pos h4])
      have e4 : (a.v == 4) = true := beq_iff_eq.2 h4
      clear hq h4
      go_enter Tryd.func39, Tryd.ntmps39
      go_upto_region 1 with fail
      refine wp_named fun W hW => ?_
      obtain ⟨bk, BW, sW⟩ := box1 hW
      clear hW
      go_upto_region 3 with (first | (refine wpList_load_blk rfl 35 _ rfl w.heap.size 35 _ _ rfl bk.out Tryd.underlying35 rfl (by as_aux_lemma => exact szc ‹_›) ?_) | (go_at_call 27; refine (valid_calls a ha _).mono ?_; rintro e W2 ⟨rfl, hB⟩; rw [HV.out]))
      have BW2 := keep BW hB
      have K2 := Lib.hid (bk.out.later hB (by have := sW.out; omega))
      have HW2 : Hid (w.heap.size < W2.heap.size) := Lib.hid K2.out.lt
      have HG2 := Lib.hid (HG.out.later BW2.out)
      clear hB
      have cv := cell_v K2.out
      go_upto_region 5 with fail
      refine wp_named fun W3 hW3 => ?_
      have bk3 : Hid (Blk W3 W2.heap.size 9 (sC 4 [])) := Lib.hid (by rw [hW3]; exact Blk.new _ _ _)
      have hb3 : Below W2.heap.size W2 W3 := by rw [hW3]; exact (Below.refl _ _).alloc (Nat.le_refl _) _
      have BW3 := keep BW2 hb3
      have K3 := Lib.hid (K2.out.later hb3 HW2.out)
      have HG3 := Lib.hid (HG2.out.later hb3)
      clear hW3 hb3 cv hmk
      go_wp2
      go_loopw [20] (fun i wr => ∃ k : Nat, i = .int .i64 k ∧ k ≤ 4 ∧ Put W3 wr W2.heap.size 9 (sC 4 ((List.range k).map fun i => S (textB 10 (a.b.getD i 0).toNat)))) (fun i _ => 4 - (intOf i).toNat)
      case atStart => exact ⟨0, rfl, by omega, Put.refl bk3.out⟩
      case round =>
        obtain ⟨k, rfl, hk, r1⟩ := hrel
        have R1 := Lib.hid r1
        clear r1
        have KW := Lib.hid (R1.out.far K3.out (by have := HW2.out; omega))
        have BWr : Hid (Below w.heap.size w wr) := Lib.hid (R1.out.below BW3.out (by have := HW2.out; omega) BW3.out.size)
        have HGr := Lib.hid (HG.out.later BWr.out)
        by_cases hlt : k < 4
        · obtain ⟨n, hn⟩ : ∃ n, (a.b.getD k 0).toNat = n := ⟨_, rfl⟩
          have hn2 : n < 256 := by rw [← hn]; exact (a.b.getD k 0).toNat_lt
          have c1 := cell_b KW.out ha k (by omega)
          rw [hn] at c1
          have HN := Lib.hid hn
          have HK := Lib.hid hlt
          have hn3 : Hid (n < 65536) := Lib.hid (by omega)
          clear hn
          go_wp2_with (go_at_call 40; (refine (itoa_calls n hn3.out _ HGr.out).mono ?_; rintro e W5 ⟨rfl, hB5⟩; have P5 := Lib.hid (Put.later_ R1.out hB5); have f5 := P5.out.blk.frozen k; obtain ⟨y5, hy5⟩ := str_cell (k := k) P5.out.blk (by rw [List.length_map, List.length_range]; omega) (by omega); clear hB5))
          refine ⟨⟨k + 1, by go_num, by have := HK.out; omega, ?_⟩, by have := HK.out; simp [intOf]; omega⟩
          have := str_put P5.out (by simp) HK.out (s := S (textB 10 n))
          rw [List.range_succ, List.map_append, List.map_singleton, HN.out]
          exact this
        · obtain rfl : k = 4 := by omega
          have KJ : Hid (Blk wr W2.heap.size 9 (gC ([0, 1, 2, 3].map fun i => S (textB 10 (a.b.getD i 0).toNat)))) := Lib.hid (by
            have := R1.out.blk
            rwa [sC_full (by simp)] at this)
          go_wp2_with (go_at_call 58; refine (join4_calls a.b _ _ KJ.out).mono ?_; rintro e W5 ⟨rfl, hB5⟩)
          go_ret
          exact ⟨by rw [HR.out]; rfl, (keep BWr hB5).out⟩
    · have hmk : ∀ w, (Instr.makeSlice 94 (.int .i64 8) (.int .i64 8)).run Tryd.prog w = .ok (.slice (some ⟨w.heap.size, 0, none⟩) 8 8) (w.alloc (.cells (sC 8 []) 9)) := fun w => make_strings 8 (by omega) w
      have HR : Hid (printV a = print6 a.b) := Lib.hid (by unfold printV; rw [hq, if_pos rfl, if_neg h4])
      have e4 : (a.v == 4) = false := beq_eq_false_iff_ne.2 h4
      clear hq h4
      go_enter Tryd.func39, Tryd.ntmps39
      go_upto_region 1 with fail
      refine wp_named fun W hW => ?_
      obtain ⟨bk, BW, sW⟩ := box1 hW
      clear hW
      go_upto_region 3 with (first | (refine wpList_load_blk rfl 35 _ rfl w.heap.size 35 _ _ rfl bk.out Tryd.underlying35 rfl (by as_aux_lemma => exact szc ‹_›) ?_) | (go_at_call 27; refine (valid_calls a ha _).mono ?_; rintro e W2 ⟨rfl, hB⟩; rw [HV.out]))
      have BW2 := keep BW hB
      have K2 := Lib.hid (bk.out.later hB (by have := sW.out; omega))
      have HW2 : Hid (w.heap.size < W2.heap.size) := Lib.hid K2.out.lt
      have HG2 := Lib.hid (HG.out.later BW2.out)
      clear hB
      have cv := cell_v K2.out
      go_upto_region 12 with fail
      refine wp_named fun W3 hW3 => ?_
      have bk3 : Hid (Blk W3 W2.heap.size 9 (sC 8 [])) := Lib.hid (by rw [hW3]; exact Blk.new _ _ _)
      have hb3 : Below W2.heap.size W2 W3 := by rw [hW3]; exact (Below.refl _ _).alloc (Nat.le_refl _) _
      have BW3 := keep BW2 hb3
      have K3 := Lib.hid (K2.out.later hb3 HW2.out)
      have HG3 := Lib.hid (HG2.out.later hb3)
      clear hW3 hb3 cv hmk
      go_wp2
      go_loopw [38] (fun i wr => ∃ k : Nat, i = .int .i64 k ∧ k ≤ 8 ∧ Put W3 wr W2.heap.size 9 (sC 8 ((List.range k).map fun k => S (textB 16 (grp a.b k))))) (fun i _ => 8 - (intOf i).toNat)
      case atStart => exact ⟨0, rfl, by omega, Put.refl bk3.out⟩
      case round =>
        obtain ⟨k, rfl, hk, r1⟩ := hrel
        have R1 := Lib.hid r1
        clear r1
        have KW := Lib.hid (R1.out.far K3.out (by have := HW2.out; omega))
        have BWr : Hid (Below w.heap.size w wr) := Lib.hid (R1.out.below BW3.out (by have := HW2.out; omega) BW3.out.size)
        have HGr := Lib.hid (HG.out.later BWr.out)
        by_cases hlt : k < 8
        · obtain ⟨x, hx⟩ : ∃ x : Int, ((a.b.getD (2 * k) 0).toNat : Int) = x := ⟨_, rfl⟩
          obtain ⟨y, hy⟩ : ∃ y : Int, ((a.b.getD (2 * k + 1) 0).toNat : Int) = y := ⟨_, rfl⟩
          have c1 : ∀ z : Later wr, z.val.cell? ⟨w.heap.size, 1 + 2 * k, none⟩ = some (.int .u8 x) := fun z => by
            have := cell_b (KW.out.later z.property KW.out.lt) ha (2 * k) (by omega)
            rwa [hx] at this
          have c2 : ∀ z : Later wr, z.val.cell? ⟨w.heap.size, 1 + (2 * k + 1), none⟩ = some (.int .u8 y) := fun z => by
            have := cell_b (KW.out.later z.property KW.out.lt) ha (2 * k + 1) (by omega)
            rwa [hy] at this
          have hx1 : 0 ≤ x := by omega
          have hx2 : x < 256 := by rw [← hx]; have := (a.b.getD (2 * k) 0).toNat_lt; omega
          have hy1 : 0 ≤ y := by omega
          have hy2 : y < 256 := by rw [← hy]; have := (a.b.getD (2 * k + 1) 0).toNat_lt; omega
          have HO : Hid (Go.bits .or .u64 (x * 256) y = ((grp a.b k : Nat) : Int)) := Lib.hid (by rw [or_bytes hx1 hx2 hy1 hy2]; unfold grp; omega)
          have HK := Lib.hid hlt
          clear hx hy
          go_wp2
          refine region_later_tail 19 (by kernel_rfl) (by kernel_rfl) ?_
          simp only [List.take_succ_cons, List.take_zero, List.drop_succ_cons, List.drop_zero]
          repeat (first | go_big_quiet_skip | (go_big_quiet_want; first | (go_big_quiet_op; first | go_big_quiet_on | go_big_quiet_call ((go_at_call 59; exact calls_later (format_is (grp_lt a.b k) HO.out _ (HGr.out.later ‹Later wr›.property)))))))
          refine wpQuiet_nil ?_
          intro z hz
          have P5 := Lib.hid (Put.later_ R1.out hz)
          have f5 := P5.out.blk.frozen k
          obtain ⟨y5, hy5⟩ := str_cell (k := k) P5.out.blk (by rw [List.length_map, List.length_range]; omega) (by omega)
          clear hz c1 c2
          go_wp2
          refine ⟨⟨k + 1, by go_num, by have := HK.out; omega, ?_⟩, by have := HK.out; simp [intOf]; omega⟩
          have := str_put P5.out (by simp) HK.out (s := S (textB 16 (grp a.b k)))
          rw [List.range_succ, List.map_append, List.map_singleton]
          exact this
        · obtain rfl : k = 8 := by omega
          have KJ : Hid (Blk wr W2.heap.size 9 (gC (gT a.b))) := Lib.hid (by
            have := R1.out.blk
            rwa [sC_full (by simp)] at this)
          obtain ⟨wo, rfl⟩ : ∃ wo, wo = wr := ⟨_, rfl⟩
          go_wp2
          go_loop [7, 8, 63] (fun f m i => ∃ k : Nat, i = .int .i64 k ∧ k ≤ 8 ∧ f = .int .i64 ((bestTo a.b k).1 : Nat) ∧ m = .int .i64 ((bestTo a.b k).2 : Nat)) (fun _ _ i => 8 - (intOf i).toNat)
          case atStart => exact ⟨0, rfl, by omega, rfl, rfl⟩
          case round =>
            obtain ⟨k, rfl, hk, rfl, rfl⟩ := hrel
            by_cases hlt : k < 8
            · obtain ⟨F, hF⟩ : ∃ F, (bestTo a.b k).1 = F := ⟨_, rfl⟩
              obtain ⟨M, hM⟩ : ∃ M, (bestTo a.b k).2 = M := ⟨_, rfl⟩
              rw [hF, hM]
              have HF := Lib.hid hF
              have HM := Lib.hid hM
              have HK := Lib.hid hlt
              clear hF hM
              go_wp2
              go_loop [10] (fun u => ∃ n : Nat, u = .int .i64 n ∧ k + n ≤ 8 ∧ runV a.b k = runV a.b (k + n) + n) (fun u => 8 - (intOf u).toNat)
              case atStart => exact ⟨0, rfl, by omega, rfl⟩
              case round =>
                obtain ⟨n, rfl, hn, hr⟩ := hrel
                have HRR := Lib.hid hr
                clear hr
                by_cases hg : k + n < 8 ∧ grp a.b (k + n) = 0
                · obtain ⟨h8, hz⟩ := hg
                  have e0 : decide ((k : Int) + n < 8) = true := decide_eq_true (by omega)
                  have e0' : decide (k + n < 8) = true := decide_eq_true h8
                  have hc : wo.cell? ⟨W2.heap.size, k + n, none⟩ = some (.string (S (textB 16 (grp a.b (k + n))))) := by rw [KJ.out.cell]; unfold gC; simp [gT_get a.b _ h8]
                  have hs := text_zero (grp a.b (k + n))
                  rw [decide_eq_true hz] at hs
                  have HN : Hid (runV a.b (k + n) = runV a.b (k + n + 1) + 1) := Lib.hid (runV_yes h8 hz)
                  clear hz
                  go_wp2
                  exact ⟨⟨n + 1, by go_num, by omega, by rw [HRR.out, HN.out, show k + (n + 1) = k + n + 1 by omega]; omega⟩, by simp [intOf]; omega⟩
                · have HN : Hid (runV a.b (k + n) = 0) := Lib.hid (runV_no hg)
                  have HE : Hid (runV a.b k = n) := Lib.hid (by rw [HRR.out, HN.out, Nat.zero_add])
                  have hstep : Hid (bestTo a.b (k + 1) = if M < n then (k, n) else (F, M)) := Lib.hid (by
                    rw [bestTo, HE.out, HM.out, ← HF.out, ← HM.out])
                  by_cases h8 : k + n < 8
                  · have hz : grp a.b (k + n) ≠ 0 := fun h => hg ⟨h8, h⟩
                    have e0 : decide ((k : Int) + n < 8) = true := decide_eq_true (by omega)
                    have e0' : decide (k + n < 8) = true := decide_eq_true h8
                    have hc : wo.cell? ⟨W2.heap.size, k + n, none⟩ = some (.string (S (textB 16 (grp a.b (k + n))))) := by rw [KJ.out.cell]; unfold gC; simp [gT_get a.b _ h8]
                    have hs := text_zero (grp a.b (k + n))
                    rw [decide_eq_false hz] at hs
                    clear hz hg
                    by_cases hmn : M < n
                    · have e1 : decide ((M : Int) < n) = true := decide_eq_true (by omega)
                      have e1' : decide (M < n) = true := decide_eq_true hmn
                      have HB : Hid (bestTo a.b (k + 1) = (k, n)) := Lib.hid (by rw [hstep.out, if_pos hmn])
                      clear hmn
                      go_wp2
                      exact ⟨⟨_, _, _, _, _, ⟨k + 1, by go_num, by have := HK.out; omega, by rw [HB.out], by rw [HB.out]⟩, rfl, rfl, rfl, rfl, rfl⟩, by have := HK.out; simp [intOf]; omega⟩
                    · have e1 : decide ((M : Int) < n) = false := decide_eq_false (by omega)
                      have e1' : decide (M < n) = false := decide_eq_false hmn
                      have HB : Hid (bestTo a.b (k + 1) = (F, M)) := Lib.hid (by rw [hstep.out, if_neg hmn])
                      clear hmn
                      go_wp2
                      exact ⟨⟨_, _, _, _, _, ⟨k + 1, by go_num, by have := HK.out; omega, by rw [HB.out], by rw [HB.out]⟩, rfl, rfl, rfl, rfl, rfl⟩, by have := HK.out; simp [intOf]; omega⟩
                  · have e0 : decide ((k : Int) + n < 8) = false := decide_eq_false (by omega)
                    have e0' : decide (k + n < 8) = false := decide_eq_false h8
                    clear hg
                    by_cases hmn : M < n
                    · have e1 : decide ((M : Int) < n) = true := decide_eq_true (by omega)
                      have e1' : decide (M < n) = true := decide_eq_true hmn
                      have HB : Hid (bestTo a.b (k + 1) = (k, n)) := Lib.hid (by rw [hstep.out, if_pos hmn])
                      clear hmn h8
                      go_wp2
                      exact ⟨⟨_, _, _, _, _, ⟨k + 1, by go_num, by have := HK.out; omega, by rw [HB.out], by rw [HB.out]⟩, rfl, rfl, rfl, rfl, rfl⟩, by have := HK.out; simp [intOf]; omega⟩
                    · have e1 : decide ((M : Int) < n) = false := decide_eq_false (by omega)
                      have e1' : decide (M < n) = false := decide_eq_false hmn
                      have HB : Hid (bestTo a.b (k + 1) = (F, M)) := Lib.hid (by rw [hstep.out, if_neg hmn])
                      clear hmn h8
                      go_wp2
                      exact ⟨⟨_, _, _, _, _, ⟨k + 1, by go_num, by have := HK.out; omega, by rw [HB.out], by rw [HB.out]⟩, rfl, rfl, rfl, rfl, rfl⟩, by have := HK.out; simp [intOf]; omega⟩
            · obtain rfl : k = 8 := by omega
              obtain ⟨F, hF⟩ : ∃ F, (bestTo a.b 8).1 = F := ⟨_, rfl⟩
              obtain ⟨M, hM⟩ : ∃ M, (bestTo a.b 8).2 = M := ⟨_, rfl⟩
              have hbest : best a.b = (F, M) := by unfold best; rw [← hF, ← hM]
              rw [hF, hM]
              have hfit := best_fits a.b
              rw [hbest] at hfit
              have HBE := Lib.hid hbest
              clear hF hM hlt hbest
              by_cases hm1 : M = 1
              · have e1 : ((M : Int) == 1) = true := beq_iff_eq.2 (by omega)
                have HX : Hid (print6 a.b = joinG a.b 0 8) := Lib.hid (by unfold print6; rw [HBE.out]; exact if_pos hm1)
                clear hm1 hfit
                go_wp2_with (go_at_call 58; refine (joinG_calls a.b 0 8 8 W2.heap.size _ (by omega) (by omega) (fun _ => rfl) _ KJ.out).mono ?_; rintro e W5 ⟨rfl, hB5⟩)
                go_ret
                exact ⟨by rw [HR.out, HX.out]; rfl, (keep BWr hB5).out⟩
              · have e1 : ((M : Int) == 1) = false := beq_eq_false_iff_ne.2 (by omega)
                obtain ⟨hM2, hFM, _⟩ : 2 ≤ M ∧ F + M ≤ 8 ∧ runV a.b F = M := by
                  rcases hfit with h | h
                  · injection h with h1 h2; exact absurd h2 hm1
                  · exact h
                have HX : Hid (print6 a.b = joinG a.b 0 F ++ [58, 58] ++ joinG a.b (F + M) (8 - (F + M))) := Lib.hid (by unfold print6; rw [HBE.out]; exact if_neg hm1)
                clear hm1 hfit
                obtain ⟨N, hN⟩ : ∃ N, 8 - (F + M) = N := ⟨_, rfl⟩
                rw [hN] at HX
                have hs1 := slice_to W2.heap.size F (by omega)
                obtain ⟨ad, hs2, had⟩ := slice_from W2.heap.size (F + M) hFM
                rw [hN] at hs2 had
                simp only [Int.natCast_add] at hs2
                have HAD := Lib.hid had
                have HA1 : Hid (0 + F ≤ 8) := Lib.hid (by omega)
                have HB1 : Hid (F + M + N ≤ 8) := Lib.hid (by omega)
                obtain ⟨p, hp⟩ : ∃ p, joinG a.b 0 F = p := ⟨_, rfl⟩
                obtain ⟨p1, hp1⟩ : ∃ p1, p ++ [58, 58] = p1 := ⟨_, rfl⟩
                obtain ⟨p2, hp2⟩ : ∃ p2, joinG a.b (F + M) N = p2 := ⟨_, rfl⟩
                obtain ⟨p3, hp3⟩ : ∃ p3, p1 ++ p2 = p3 := ⟨_, rfl⟩
                have z0 : (S p).size ≤ 40 := by rw [S_size, ← hp]; have := joinG_len a.b 0 F; omega
                have s1 : S p ++ ⟨#[58, 58]⟩ = S p1 := by rw [← hp1]; exact S_app p [58, 58]
                have z1 : (S p1).size ≤ 50 := by rw [← s1, ByteArray.size_append]; have : (ByteArray.mk #[58, 58]).size = 2 := rfl; omega
                have z2 : (S p2).size ≤ 40 := by rw [S_size, ← hp2]; have := joinG_len a.b (F + M) N; omega
                have s3 : S p1 ++ S p2 = S p3 := by rw [← hp3]; exact S_app p1 p2
                have HP3 : Hid (print6 a.b = p3) := Lib.hid (by rw [HX.out, hp, hp1, hp2, hp3])
                have HFM := Lib.hid hFM
                clear hp1 hp3 had HX hN
                go_wp2
                refine region_later (by kernel_rfl) (by kernel_rfl) ?_
                repeat (first | go_big_quiet_skip | (go_big_quiet_want; first | (go_big_quiet_op; first | go_big_quiet_on | go_big_quiet_call ((go_at_call 58; first | (with_reducible exact calls_later (joinG_calls a.b 0 F 8 W2.heap.size _ HA1.out (by omega) (fun _ => rfl) _ (Later.blk KJ.out _))) | (with_reducible exact calls_later (joinG_calls a.b (F + M) N N W2.heap.size _ HB1.out (Nat.le_refl _) HAD.out _ (Later.blk KJ.out _))))))))
                refine wpQuiet_nil ?_
                intro z hz
                have HBz := Lib.hid (BWr.out.trans (hz.mono BWr.out.size))
                clear hz
                go_wp2
                go_ret
                exact ⟨by rw [HR.out, HP3.out]; rfl, HBz.out⟩
end Go.Proofs.YtpaplobjmmpliaaDoor.Ad
