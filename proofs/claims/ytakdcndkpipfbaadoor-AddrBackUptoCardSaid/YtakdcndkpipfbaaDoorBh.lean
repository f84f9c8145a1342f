/- Contracts of strconv.FormatUint at base 16, below 65536. Conditions: the library's own tables hold what its text lays. -/
import Derived.Test.YtakdcndkpipfbaaDoorBf
import Derived.Test.YtakdcndkpipfbaaDoorBg
import Derived.Lib.SlBytesRow
namespace Go.Proofs.YtakdcndkpipfbaaDoor.Ad
set_option linter.unusedVariables false
set_option linter.unusedSimpArgs false
open Go.RowKit W
set_option maxRecDepth 100000 in
set_option maxHeartbeats 4000000 in
theorem tz64_calls (w : World) (hg : Gl w) : Calls Tryd.prog 82 #[.int .u64 16] w fun e w' => e = .returned (.int .i64 4) ∧ w = w' := by
  have ht := hg.tz
  clear hg
  have h1 : bits .and .u64 16 (IntKind.u64.wrap (-16)) = 16 := by decide
  have h2 : IntKind.u64.wrap 4573923408821661840 = 4573923408821661840 := by decide
  go_enter Tryd.func82, Tryd.ntmps82
  go_wp2
  go_ret
  exact ⟨rfl, rfl⟩
set_option maxRecDepth 100000 in
set_option maxHeartbeats 4000000 in
theorem tz_calls (w : World) (hg : Gl w) : Calls Tryd.prog 74 #[.int .u64 16] w fun e w' => e = .returned (.int .i64 4) ∧ w = w' := by
  have HG := Lib.hid hg
  clear hg
  go_enter Tryd.func74, Tryd.ntmps74
  go_wp2_with (go_at_call 82; refine (tz64_calls _ HG.out).mono ?_; rintro e w' ⟨rfl, rfl⟩)
  go_ret
  exact ⟨rfl, rfl⟩
set_option maxRecDepth 100000 in
set_option maxHeartbeats 4000000 in
theorem pow2_calls (w : World) : Calls Tryd.prog 73 #[.int .i64 16] w fun e w' => e = .returned (.bool true) ∧ w = w' := by
  have h1 : bits .and .i64 16 15 = 0 := by decide
  go_enter Tryd.func73, Tryd.ntmps73
  go_wp2
  go_ret
  exact ⟨rfl, rfl⟩
def digits36 : ByteArray := ⟨#[48, 49, 50, 51, 52, 53, 54, 55, 56, 57, 97, 98, 99, 100, 101, 102, 103, 104, 105, 106, 107, 108, 109, 110, 111, 112, 113, 114, 115, 116, 117, 118, 119, 120, 121, 122]⟩
theorem digs (k : Nat) (h : k < 36) : digits36.data.toList.getD k 0 = digC k := by
  have : ∀ k : Fin 36, digits36.data.toList.getD k.val 0 = digC k.val := by decide
  exact this ⟨k, h⟩
theorem digs2 (k : Nat) (h : k < 36) (h2 : k < digits36.size) : digits36[k] = digC k := by
  rw [← digs k h, List.getD_eq_getElem?_getD, List.getElem?_eq_getElem (by simpa using h2)]
  rfl
/-- The buffer of 65 bytes with ds at its end. -/
def bufL (ds : List UInt8) : List UInt8 := List.replicate (65 - ds.length) 0 ++ ds
def bufC (ds : List UInt8) : Array Value := ((bufL ds).map fun b => Value.int .u8 b.toNat).toArray
theorem bufC_nil : bufC [] = Tryd.zeroCells97 := by rfl
theorem bufL_len (ds : List UInt8) (h : ds.length ≤ 65) : (bufL ds).length = 65 := by unfold bufL; simp; omega
theorem bufC_size (ds : List UInt8) (h : ds.length ≤ 65) : (bufC ds).size = 65 := by unfold bufC; simp [bufL_len ds h]
theorem bufC_set (d : UInt8) (ds : List UInt8) (h : ds.length < 65) (i : Nat) (hi : i + ds.length + 1 = 65) (y : Int) (hy : y = (d.toNat : Int)) : (bufC ds).setIfInBounds i (.int .u8 y) = bufC (d :: ds) := by
  subst hy
  unfold bufC bufL
  apply Array.toList_inj.1
  rw [Array.toList_setIfInBounds]
  show List.set _ _ _ = _
  rw [show 65 - ds.length = i + 1 by omega, show 65 - (d :: ds).length = i by simp; omega, List.replicate_succ', List.append_assoc]
  simp only [List.map_append, List.map_cons, List.singleton_append, List.map_replicate]
  rw [List.set_append_right _ _ (by simp)]
  simp
theorem bufC_cell (ds : List UInt8) (h : ds.length ≤ 65) (i : Nat) (hi : i < ds.length) : (bufC ds)[65 - ds.length + i]? = some (.int .u8 ((ds.getD i 0).toNat : Int)) := by
  unfold bufC bufL
  rw [List.getElem?_toArray, List.getElem?_map, List.getElem?_append_right (by simp)]
  simp [hi]
theorem buf_bytes {w : World} {g : Nat} {t : TypeId} {ds : List UInt8} (b : Blk w g t (bufC ds)) (h : ds.length ≤ 65) : Lib.Bytes w g (65 - ds.length) ⟨ds.toArray⟩ := fun i hi => by
  have hi' : i < ds.length := hi
  rw [b.cell]
  refine (bufC_cell ds h i hi').trans ?_
  simp [hi', ByteArray.getElem_eq_getElem_data]
theorem buf_put {W0 wr : World} {g : Nat} {t : TypeId} {ds : List UInt8} {i k : Nat} {y : Int} (r : Put W0 wr g t (bufC ds)) (hk : k < 36) (h : i + ds.length + 1 = 65) (hy : y = (((digits36[k]'hk).toNat : Nat) : Int)) :
    Put W0 (wr.setCell ⟨g, i, none⟩ (.int .u8 y)) g t (bufC (digC k :: ds)) := by
  have := r.set_ i (.int .u8 y)
  rwa [bufC_set (digC k) ds (by omega) i h y (by rw [hy, digs2 k hk hk])] at this
set_option maxRecDepth 100000 in
theorem slice65 (i : Nat) (h : i < 65) (w : World) (g : Nat) : (Instr.sliceAt 97 (.pointer (some ⟨g, 0, none⟩)) (some (.int .i64 (i : Int))) none none).run Tryd.prog w = .ok (.slice (some ⟨g, i, none⟩) (65 - i) (65 - i)) w := by
  have e1 : Tryd.prog.arrayLen 97 = 65 := by rfl
  have e2 : Tryd.prog.elem 97 = 5 := by rfl
  have e3 : (Go.sizeOf 5).run Tryd.prog w = .ok 1 w := by rfl
  rw [run_sliceAt_array_l w 97 _ Tryd.underlying97 .i64 (i : Int) (by omega) (by rw [e1]; omega), e1, e2, e3, Result.andThen_ok, slicedAt, Int.toNat_natCast, if_neg (by omega)]
  unfold Go.Addr.add
  simp
  exact fun h => h.symm
/-- A window of bytes turned into a text. -/
theorem wpList_str {P : Program} {w : World} {ops : Array Oper} {rest : List Oper} {o : Oper} {a : Act} {Q : Exit → Act → World → Prop} (hgd : o.guard = none) (src dst e : TypeId) (hs : P.underlying src = some (.slice e)) (hd : P.underlying dst = some .string) (he : P.underlying e = some (.int .u8)) (x : Operand)
    (ho : o.op = .convert src dst x) (g i n c : Nat) (hx : a.eval x = .slice (some ⟨g, i, none⟩) n c) (s : ByteArray) (hb : Lib.Bytes w g i s) (hn : s.size = n)
    (h : wpList P ops Q rest (a.put o.dst (.string s)) w) : wpList P ops Q (o :: rest) a w := by
  subst hn
  refine wpList_plain hgd fun K hK => ?_
  unfold Oper.wp execOp
  simp only [ho, hx, Sem.run_bind, Lib.run_convert_whole w src e dst hs he hd g i s hb c, Result.andThen_ok, Sem.run_pure]
  exact hK _ _ h
/-- What is laid and what is left. -/
def Laid (n m : Nat) (ds : List UInt8) : Prop := textB 16 n = textB 16 m ++ ds
theorem Laid.step {n m : Nat} {ds : List UInt8} (h : Laid n m ds) (hm : 16 ≤ m) : Laid n (m / 16) (digC (m % 16) :: ds) := by
  unfold Laid at *
  rw [h, textB_more hm (by omega)]; simp
theorem Laid.last {n m : Nat} {ds : List UInt8} (h : Laid n m ds) (hm : m < 16) : textB 16 n = digC m :: ds := by
  unfold Laid at h
  rw [h, textB_one hm]; rfl
theorem textB_pos (b n : Nat) : 1 ≤ (textB b n).length := by
  rw [textB]; split <;> simp
theorem Laid.short {n m : Nat} {ds : List UInt8} (h : Laid n m ds) (hn : n < 65536) : ds.length ≤ 3 := by
  have h1 := (textB_len16 hn).2
  unfold Laid at h
  rw [h] at h1
  have := textB_pos 16 m
  simp at h1; omega
theorem digC_small {k : Nat} (h : k < 36) : (digC k).toNat < 256 := (digC k).toNat_lt
theorem wraps_u64_63' (n : Int) (h₀ : 0 ≤ n) (h₁ : n < 2 ^ 63) : IntKind.u64.wrap n = n := by rw [IntKind.wrap_u64]; omega
theorem and15 (m : Nat) (h : m < 65536) : Go.bits .and .u64 (m : Int) 15 = ((m % 16 : Nat) : Int) := by
  have h := bits_mask .u64 63 (by decide) wraps_u64_63' 4 (by decide) (m : Int) (by omega) (by omega)
  have e : ((2 : Int) ^ 4 - 1) = 15 := by decide
  have e2 : ((2 : Int) ^ 4) = 16 := by decide
  rw [e, e2] at h
  rw [h]
  omega
set_option maxRecDepth 100000 in
set_option maxHeartbeats 4000000 in
theorem formatBits_calls (n : Nat) (hn : n < 65536) (w : World) (hg : Gl w) : Calls Tryd.prog 63 #[.slice none 0 0, .int .u64 n, .int .i64 16, .bool false, .bool false] w fun e w' => e = .returned (.tuple #[.slice none 0 0, .string ⟨(textB 16 n).toArray⟩]) ∧ Below w.heap.size w w' := by
  have HG := Lib.hid hg
  clear hg
  go_enter Tryd.func63, Tryd.ntmps63
  go_upto_region 4 with fail
  refine wp_named fun W hW => ?_
  have hW' : W = w.alloc (.cells (bufC []) 97) := by rw [bufC_nil]; exact hW
  obtain ⟨bk, BW, sW⟩ := box1 hW'
  clear hW hW'
  have GLW := Lib.hid (HG.out.later BW.out)
  go_wp2_with (first | (go_at_call 73; refine (pow2_calls _).mono ?_; rintro e w' ⟨rfl, rfl⟩) | (go_at_call 74; refine (tz_calls _ GLW.out).mono ?_; rintro e w' ⟨rfl, rfl⟩))
  go_loopw [1, 13] (fun u i wr => ∃ (m p : Nat) (ds : List UInt8), u = .int .u64 m ∧ i = .int .i64 p ∧ p + ds.length = 65 ∧ Laid n m ds ∧ m ≤ n ∧ Put W wr w.heap.size 97 (bufC ds)) (fun u _ _ => (intOf u).toNat)
  case atStart => exact ⟨n, 65, [], rfl, rfl, rfl, by simp [Laid], Nat.le_refl _, Put.refl bk.out⟩
  case round =>
    obtain ⟨m, p, ds, rfl, rfl, hp, hl, hm, r1⟩ := hrel
    have R1 := Lib.hid r1
    have BR := Lib.hid r1.blk
    have HL := Lib.hid hl
    have hds := hl.short hn
    clear r1 hl
    by_cases hlt : 16 ≤ m
    · have hlt' : (16 : Int) ≤ m := by omega
      have e0 : decide ((16 : Int) ≤ (m : Int)) = true := decide_eq_true hlt'
      have ha := and15 m (by omega)
      have hsh : ((m : Int) / 2 ^ 4) = ((m / 16 : Nat) : Int) := by omega
      have hk16 : m % 16 < 36 := by omega
      have hkk : ((m % 16 : Nat) : Int) < 36 := by omega
      have hp1 : ((p : Int) - 1) = ((p - 1 : Nat) : Int) := by omega
      have hp2 : p - 1 < 65 := by omega
      have hpb : p ≤ 65 := by omega
      have f1 := BR.out.frozen (p - 1)
      obtain ⟨y1, hy1⟩ : ∃ y, wr.cell? ⟨w.heap.size, p - 1, none⟩ = some y := ⟨_, (BR.out.cell _).trans (Array.getElem?_eq_getElem (by rw [bufC_size ds (by omega)]; omega))⟩
      have HN : Hid (16 ≤ m) := Lib.hid hlt
      clear hlt hlt'
      go_wp2
      refine ⟨⟨m / 16, p - 1, digC (m % 16) :: ds, by go_num, rfl, by simp; omega, HL.out.step HN.out, by omega, ?_⟩, by simp [intOf]; have := HN.out; omega⟩
      exact buf_put R1.out hk16 (by have := HN.out; omega) rfl
    · have hlt' : ¬ ((16 : Int) ≤ m) := by omega
      have e0 : decide ((16 : Int) ≤ (m : Int)) = false := decide_eq_false hlt'
      have hk16 : m < 36 := by omega
      have hkk : (m : Int) < 36 := by omega
      have hp1 : ((p : Int) - 1) = ((p - 1 : Nat) : Int) := by omega
      have hp2 : p - 1 < 65 := by omega
      have hpb : p ≤ 65 := by omega
      have f1 := BR.out.frozen (p - 1)
      obtain ⟨y1, hy1⟩ : ∃ y, wr.cell? ⟨w.heap.size, p - 1, none⟩ = some y := ⟨_, (BR.out.cell _).trans (Array.getElem?_eq_getElem (by rw [bufC_size ds (by omega)]; omega))⟩
      have HT := Lib.hid (HL.out.last (by omega))
      have hsl := slice65 (p - 1) hp2
      obtain ⟨ds', hd⟩ : ∃ ds', digC m :: ds = ds' := ⟨_, rfl⟩
      have hdl : ds'.length = 65 - (p - 1) := by rw [← hd]; simp; omega
      have HD := Lib.hid hd
      clear hlt hlt' hd
      go_wp2
      generalize hW2 : wr.setCell ⟨w.heap.size, p - 1, none⟩ _ = W2
      have hput : Put W W2 w.heap.size 97 (bufC ds') := by
        rw [← hW2, ← HD.out]
        exact buf_put R1.out hk16 (by omega) rfl
      clear hW2
      have hbytes := buf_bytes hput.blk (by omega)
      rw [show 65 - ds'.length = p - 1 by omega] at hbytes
      have hss : (ByteArray.mk ds'.toArray).size = 65 - (p - 1) := (show ds'.toArray.size = _ by simpa using hdl)
      have hcv := Lib.run_convert_whole (P := Tryd.prog) W2 52 5 9 Tryd.underlying52 Tryd.underlying5 Tryd.underlying9 w.heap.size (p - 1) ⟨ds'.toArray⟩ hbytes (65 - (p - 1))
      rw [hss] at hcv
      rw [hcv]
      clear hbytes
      go_wp2
      go_ret2
      exact ⟨by rw [HT.out, HD.out]; rfl, hput.below BW.out (Nat.le_refl _) BW.out.size⟩
set_option maxRecDepth 100000 in
set_option maxHeartbeats 4000000 in
theorem formatIn_calls (n : Nat) (hn : n < 65536) (w : World) (hg : Gl w) : Calls Tryd.prog 47 #[.int .u64 n, .int .i64 16] w fun e w' => e = .returned (.string ⟨(textB 16 n).toArray⟩) ∧ Below w.heap.size w w' := by
  have HG := Lib.hid hg
  clear hg
  go_enter Tryd.func47, Tryd.ntmps47
  go_wp2_with (go_at_call 63; refine (formatBits_calls n hn _ HG.out).mono ?_; rintro e w' ⟨rfl, hb⟩)
  all_goals (go_ret; exact ⟨rfl, hb⟩)
set_option maxRecDepth 100000 in
set_option maxHeartbeats 4000000 in
theorem format_calls (n : Nat) (hn : n < 65536) (w : World) (hg : Gl w) : Calls Tryd.prog 31 #[.int .u64 n, .int .i64 16] w fun e w' => e = .returned (.string ⟨(textB 16 n).toArray⟩) ∧ Below w.heap.size w w' := by
  have HG := Lib.hid hg
  clear hg
  go_enter Tryd.func31, Tryd.ntmps31
  go_wp2_with (go_at_call 47; refine (formatIn_calls n hn _ HG.out).mono ?_; rintro e w' ⟨rfl, hb⟩)
  all_goals (go_ret; exact ⟨rfl, hb⟩)
end Go.Proofs.YtakdcndkpipfbaaDoor.Ad
