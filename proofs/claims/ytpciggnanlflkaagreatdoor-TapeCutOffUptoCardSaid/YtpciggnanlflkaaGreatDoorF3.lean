/- Contract of the reference's decimal; bytes turned into a text. Conditions: none beyond those that each theorem states. Contract of the reference's line. Conditions: the record's numbers lie within what a right tape may hold. A list of bytes that may be marked beyond its end (as a text turned into bytes is); appending to it. Conditions: none beyond those that each theorem states. Contract of the reference's Print. Conditions: none beyond those that the theorem states. -/
import Derived.Test.YtpciggnanlflkaaGreatDoorF2
import Derived.Deep.AppendSrc
import Derived.Laws.IdiomCopy
namespace Go.Proofs.YtpciggnanlflkaaGreatDoor.Ad
set_option linter.unusedVariables false
set_option linter.unusedSimpArgs false
open Go.RowKit Go.Maps W
theorem conv_nil (w : World) (c : Nat) : (convert 26 9 (.slice none 0 c)).run Tryz.prog w = .ok (.string (S [])) w := by
  first | kernel_rfl | rfl
theorem conv_at {w : World} {p : Option Go.Addr} {l : List UInt8} {n c : Nat} (h : BAt w p l) (hs : SlOk p n c) (hn : n = l.length) : (convert 26 9 (.slice p n c)).run Tryz.prog w = .ok (.string (S l)) w := by
  subst hn
  rcases h with rfl | ⟨g, o, rfl, _, hb⟩
  · cases p with
    | none => exact conv_nil w c
    | some a =>
      obtain ⟨g, o, f⟩ := a
      cases f with
      | none => exact Lib.run_convert_whole (P := Tryz.prog) w 26 5 9 Tryz.underlying26 Tryz.underlying5 Tryz.underlying9 g o (S []) (fun i hi => by rw [S_size] at hi; exact absurd hi (Nat.not_lt_zero i)) c
      | some f => first | kernel_rfl | rfl
  · have := Lib.run_convert_whole (P := Tryz.prog) w 26 5 9 Tryz.underlying26 Tryz.underlying5 Tryz.underlying9 g o (S l) hb c
    rw [S_size] at this
    exact this
theorem one_byte {w : World} {g : Nat} {t : TypeId} {x : UInt8} (b : Blk w g t #[.int .u8 (x.toNat : Int)]) : Lib.Bytes w g 0 (S [x]) := fun i hi => by
  have : i = 0 := by rw [S_size] at hi; simp at hi; omega
  subst this
  rw [b.cell]
  rfl
theorem conv_one {x : UInt8} {y : Int} (hy : y = (x.toNat : Int)) (w W2 : World) (h2 : w.alloc (.cells #[.int .u8 y] 5) = W2) : (convert 26 9 (.slice (some ⟨w.heap.size, 0, none⟩) 1 1)).run Tryz.prog W2 = .ok (.string (S [x])) W2 := by
  subst hy
  have hb : Blk W2 w.heap.size 5 #[.int .u8 (x.toNat : Int)] := by rw [← h2]; exact Blk.new _ _ _
  exact Lib.run_convert_whole (P := Tryz.prog) W2 26 5 9 Tryz.underlying26 Tryz.underlying5 Tryz.underlying9 w.heap.size 0 (S [x]) (one_byte hb) 1
theorem dig_ten : ∀ k : Fin 10, ((digC k.val).toNat : Int) = 48 + (k.val : Int) := by decide +kernel
set_option maxRecDepth 100000 in
set_option maxHeartbeats 4000000 in
theorem rdecimal_calls (n : Nat) (hn : n ≤ 1099511627776) (w : World) : Calls Tryz.prog 41 #[.int .i64 (n : Int)] w fun e w' => e = .returned (.string (S (textB 10 n))) ∧ Below w.heap.size w w' := by
  obtain ⟨tx, htx⟩ : ∃ q, textB 10 n = q := ⟨_, rfl⟩
  have HT0 : Hid (tx = textB 10 n ++ ([] : List UInt8)) := Lib.hid (by rw [← htx, List.append_nil])
  have HTL : Hid (tx.length ≤ 13) := Lib.hid (by rw [← htx]; exact textB_le n hn)
  rw [htx]
  clear htx
  go_enter Tryz.func41, Tryz.ntmps41
  go_wp2
  go_loopw [0, 3] (fun u0 u3 wr => ∃ (k : Nat) (acc : List UInt8), k ≤ 1099511627776 ∧ u0 = .int .i64 (k : Int) ∧ u3 = .string (S acc) ∧ Hid (tx = textB 10 k ++ acc) ∧ Hid (Below w.heap.size w wr)) (fun u0 _ _ => (intOf u0).toNat)
  case atStart => exact ⟨n, [], hn, rfl, rfl, HT0, Lib.hid (Below.refl _ _)⟩
  case round =>
    clear HT0 hn
    obtain ⟨k, acc, hk, rfl, rfl, HT, HW⟩ := hrel
    have hm := Nat.mod_lt k (show 0 < 10 by omega)
    have hd : (48 + ((k % 10 : Nat) : Int)) = ((digC (k % 10)).toNat : Int) := (dig_ten ⟨k % 10, hm⟩).symm
    have HLN : Hid (acc.length ≤ 13) := Lib.hid (by have := HTL.out; rw [HT.out, List.length_append] at this; omega)
    have z1 : ¬ 9223372036854775807 < (S [digC (k % 10)]).size + (S acc).size := by have := HLN.out; rw [S_size, S_size]; simp; omega
    have z2 : ¬ 9223372036854775807 < 1 + (S acc).size := by have := HLN.out; rw [S_size]; omega
    have happ : S [digC (k % 10)] ++ S acc = S (digC (k % 10) :: acc) := by rw [S_app]; rfl
    by_cases hlt : k < 10
    · have e1 : ((k : Int) / 10 == 0) = true := by rw [show (k : Int) / 10 = 0 by omega]; rfl
      have HF : Hid (tx = digC (k % 10) :: acc) := Lib.hid (by rw [HT.out, textB_one hlt, Nat.mod_eq_of_lt hlt]; rfl)
      clear hlt
      go_wp2
      generalize hW2 : wr.alloc (Obj.cells #[_] 5) = W2
      rw [conv_one (x := digC (k % 10)) (by omega) wr W2 hW2]
      have HB2 : Hid (Below wr.heap.size wr W2) := Lib.hid (by rw [← hW2]; exact (Below.refl _ _).alloc (Nat.le_refl _) _)
      clear hW2
      go_wp2
      go_ret
      exact ⟨by rw [HF.out]; rfl, (HW.out.trans (HB2.out.mono HW.out.size))⟩
    · have e1 : ((k : Int) / 10 == 0) = false := beq_eq_false_iff_ne.2 (by omega)
      have HN : Hid (tx = textB 10 (k / 10) ++ digC (k % 10) :: acc) := Lib.hid (by rw [HT.out, textB_more (by omega) (by omega), List.append_assoc]; rfl)
      go_wp2
      generalize hW2 : wr.alloc (Obj.cells #[_] 5) = W2
      rw [conv_one (x := digC (k % 10)) (by omega) wr W2 hW2]
      have HB2 : Hid (Below wr.heap.size wr W2) := Lib.hid (by rw [← hW2]; exact (Below.refl _ _).alloc (Nat.le_refl _) _)
      clear hW2
      go_wp2
      exact ⟨⟨k / 10, digC (k % 10) :: acc, by omega, by simp, rfl, HN, Lib.hid (HW.out.trans (HB2.out.mono HW.out.size))⟩, by simp [intOf]; omega⟩
end Go.Proofs.YtpciggnanlflkaaGreatDoor.Ad
namespace Go.Proofs.YtpciggnanlflkaaGreatDoor.Ad
set_option linter.unusedVariables false
set_option linter.unusedSimpArgs false
open Go.RowKit Go.Maps W
theorem lt16 (q : Nat) (h : q < 16) : q = 0 ∨ q = 1 ∨ q = 2 ∨ q = 3 ∨ q = 4 ∨ q = 5 ∨ q = 6 ∨ q = 7 ∨ q = 8 ∨ q = 9 ∨ q = 10 ∨ q = 11 ∨ q = 12 ∨ q = 13 ∨ q = 14 ∨ q = 15 := by omega
theorem run_dig (q : Nat) (hq : q < 16) (w : World) : (Instr.index 9 (.string ⟨#[48, 49, 50, 51, 52, 53, 54, 55, 56, 57, 97, 98, 99, 100, 101, 102]⟩) (.int .u8 (q : Int))).run Tryz.prog w = .ok (.int .u8 ((digC q).toNat : Int)) w := by
  rcases lt16 q hq with rfl | rfl | rfl | rfl | rfl | rfl | rfl | rfl | rfl | rfl | rfl | rfl | rfl | rfl | rfl | rfl <;> kernel_rfl
theorem exec_dig {o : Oper} {a : Act} (x y : Operand) (ho : o.op = .index 9 y x) (hy : a.eval y = .string ⟨#[48, 49, 50, 51, 52, 53, 54, 55, 56, 57, 97, 98, 99, 100, 101, 102]⟩) (q : Nat) (hq : q < 16) (hx : a.eval x = .int .u8 (q : Int)) (w : World) : (execOp a.eval o).run Tryz.prog w = .ok (.value (.int .u8 ((digC q).toNat : Int))) w := by
  unfold execOp
  simp only [ho, hx, hy, Sem.run_bind, run_dig q hq, Result.andThen_ok, Sem.run_pure]
theorem two_info : (Tryz.prog.info? 5).map (fun i => (i.zero, i.size, i.bytes)) = some (some (.int .u8 0), 1, 1) := by kernel_rfl
theorem fill_two (x y : Int) : Instr.fill (fun i => some (i * 1, 1)) ((Array.range (2 * 1)).map ((Value.int .u8 0).cells[· % (Value.int .u8 0).cells.size]!)) [(0, .int .u8 x), (1, .int .u8 y)] = some #[.int .u8 x, .int .u8 y] := by kernel_rfl
theorem wp_slice_two {o : Oper} {a : Act} {w : World} {K : Act → World → Prop} {Q : Exit → Act → World → Prop} (x y : Operand) (ho : o.op = .buildSlice 26 2 #[(0, x), (1, y)]) (u v : Int) (hx : a.eval x = .int .u8 u) (hy : a.eval y = .int .u8 v)
    (h : K (a.put o.dst (.slice (some ⟨w.heap.size, 0, none⟩) 2 2)) (w.alloc (.cells #[.int .u8 u, .int .u8 v] 5))) : o.wp Tryz.prog a w K Q := by
  obtain ⟨i0, hi, hz0, hz1, hz2⟩ := info_parts two_info
  refine wp_buildSlice 26 5 2 _ ho #[.int .u8 u, .int .u8 v] i0 _ Tryz.underlying26 hi hz0 (by rw [hz1]; omega) (by rw [hz1]; omega) ?_ h
  rw [hz1]
  have e : (Array.map (fun (z : Nat × Operand) => match z with | (i, z) => (i, a.eval z)) #[(0, x), (1, y)]).toList = [(0, .int .u8 u), (1, .int .u8 v)] := by simp [hx, hy]
  have := fill_two u v
  rw [← e] at this
  exact this
theorem keepB {w W z : World} {b0 : Nat} (h : Hid (Below w.heap.size w W)) (hb : Hid (w.heap.size = b0)) (k : Hid (Below W.heap.size W z)) : Hid (Below b0 w z) := Lib.hid (by rw [← hb.out]; exact (keep h k.out).out)
theorem wp_assign_any {P : Program} {o : Oper} {a : Act} {w : World} {K : Act → World → Prop} {Q : Exit → Act → World → Prop} (x : Operand) (ho : o.op = .assign x) (h : K (a.put o.dst (a.eval x)) w) : o.wp P a w K Q := by
  unfold Oper.wp execOp
  simp only [ho, Sem.run_pure, Sem.run_bind, Result.andThen_ok]
  exact h
theorem hex_snoc {l : List UInt8} {k : Nat} {c : UInt8} (h : l[k]? = some c) : (l.take (k + 1)).flatMap hexC = (l.take k).flatMap hexC ++ [digC (c.toNat / 16), digC (c.toNat % 16)] := by
  rw [List.take_add_one, h]; simp [hexC]
theorem line_S (t1 t2 wy t3 hx : List UInt8) (r : Rec) (h1 : textB 10 r.tk.toNat = t1) (h2 : textB 10 r.node.toNat = t2) (h3 : textB 10 r.long.toNat = t3) (h4 : wayV r.out = wy) (h5 : r.data.flatMap hexC = hx) :
    ((((((S t1 ++ ⟨#[32]⟩) ++ S t2) ++ S wy) ++ S t3) ++ ⟨#[32, 58]⟩) ++ S hx : ByteArray) = S (lineT r) := by
  rw [front_S, S_app]
  unfold lineT frontT
  rw [h1, h2, h3, h4, h5]
set_option maxRecDepth 100000 in
set_option maxHeartbeats 8000000 in
theorem rline_calls (r : Rec) (hr : 0 ≤ r.tk ∧ r.tk ≤ 1099511627776 ∧ 0 ≤ r.node ∧ r.node < 16 ∧ 0 ≤ r.long ∧ r.long ≤ 65575 ∧ r.data.length ≤ 65575) (pd : Option Go.Addr) (cd : Nat) (w : World) (hb : BAt w pd r.data) :
    Calls Tryz.prog 42 #[.agg (recC r (.slice pd r.data.length cd)).toArray] w fun e w' => e = .returned (.string (S (lineT r))) ∧ Below w.heap.size w w' := by
  have HB := Lib.hid hb
  have HL : Hid (∀ t1 t2 wy t3 hx : List UInt8, textB 10 r.tk.toNat = t1 → textB 10 r.node.toNat = t2 → textB 10 r.long.toNat = t3 → wayV r.out = wy → r.data.flatMap hexC = hx → ((((((S t1 ++ ⟨#[32]⟩) ++ S t2) ++ S wy) ++ S t3) ++ ⟨#[32, 58]⟩) ++ S hx : ByteArray) = S (lineT r)) := Lib.hid (fun t1 t2 wy t3 hx h1 h2 h3 h4 h5 => line_S t1 t2 wy t3 hx r h1 h2 h3 h4 h5)
  obtain ⟨lt, hlt⟩ : ∃ q, lineT r = q := ⟨_, rfl⟩
  rw [hlt] at HL ⊢
  clear hlt hb
  obtain ⟨tk, nd, ou, lg, dt⟩ := r
  simp only at hr HL HB
  obtain ⟨h1, h2, h3, h4, h5, h6, h7⟩ := hr
  have HD1 := Lib.hid (fun w => rdecimal_calls tk.toNat (by omega) w)
  have HD2 := Lib.hid (fun w => rdecimal_calls nd.toNat (by omega) w)
  have HD3 := Lib.hid (fun w => rdecimal_calls lg.toNat (by omega) w)
  rw [show ((tk.toNat : Nat) : Int) = tk by omega] at HD1
  rw [show ((nd.toNat : Nat) : Int) = nd by omega] at HD2
  rw [show ((lg.toNat : Nat) : Int) = lg by omega] at HD3
  have l1 := textB_le tk.toNat (by omega)
  have l2 := textB_le nd.toNat (by omega)
  have l3 := textB_le lg.toNat (by omega)
  obtain ⟨t1, ht1⟩ : ∃ q, textB 10 tk.toNat = q := ⟨_, rfl⟩
  obtain ⟨t2, ht2⟩ : ∃ q, textB 10 nd.toNat = q := ⟨_, rfl⟩
  obtain ⟨t3, ht3⟩ : ∃ q, textB 10 lg.toNat = q := ⟨_, rfl⟩
  have HL := Lib.hid (fun wy hx => HL.out t1 t2 wy t3 hx ht1 ht2 ht3)
  rw [ht1] at HD1 l1
  rw [ht2] at HD2 l2
  rw [ht3] at HD3 l3
  have e1 : (S t1).size ≤ 13 := by rw [S_size]; exact l1
  have e2 : (S t2).size ≤ 13 := by rw [S_size]; exact l2
  have e3 : (S t3).size ≤ 13 := by rw [S_size]; exact l3
  have HHX : Hid (∀ hx : List UInt8, dt.flatMap hexC = hx → hx.length ≤ 131150) := Lib.hid (fun hx h => by rw [← h, hexs_len]; omega)
  obtain ⟨s1, hs1⟩ : ∃ q, S t1 = q := ⟨_, rfl⟩
  obtain ⟨s2, hs2⟩ : ∃ q, S t2 = q := ⟨_, rfl⟩
  obtain ⟨s3, hs3⟩ : ∃ q, S t3 = q := ⟨_, rfl⟩
  rw [hs1] at HD1 e1
  rw [hs2] at HD2 e2
  rw [hs3] at HD3 e3
  rw [hs1, hs2, hs3] at HL
  obtain ⟨dn, hdn⟩ : ∃ q, dt.length = q := ⟨_, rfl⟩
  have HDN := Lib.hid hdn
  have hb32 : dn ≤ 65575 := by rw [← hdn]; exact h7
  have HDT : Hid (dt.take dn = dt) := Lib.hid (by rw [← hdn]; exact List.take_length)
  have HSZ := Lib.hid (And.intro e1 (And.intro e2 e3))
  have HWY : Hid (ou = true ∧ wayV ou = [32, 111, 117, 116, 32] ∨ ou = false ∧ wayV ou = [32, 105, 110, 32]) := Lib.hid (by cases ou; exact .inr ⟨rfl, rfl⟩; exact .inl ⟨rfl, rfl⟩)
  simp only
  rw [hdn]
  clear h1 h2 h3 h4 h5 h6 h7 l1 l2 l3 ht1 ht2 ht3 hs1 hs2 hs3 hdn e1 e2 e3
  obtain ⟨i0, hi, hz0, hz1, hz2⟩ := info_parts two_info
  unfold recC
  go_enter Tryz.func42, Tryz.ntmps42
  go_upto_region 1 with fail
  refine wp_named fun W hW => ?_
  obtain ⟨bk, BW, sW⟩ := box1 hW
  obtain ⟨b0, hb0⟩ : ∃ b, w.heap.size = b := ⟨_, rfl⟩
  have HB0 := Lib.hid hb0
  rw [hb0] at bk sW ⊢
  have HBL : Hid (b0 < W.heap.size) := Lib.hid bk.out.lt
  have HBW := Lib.hid (HB.out.later BW.out)
  have c2 : W.cell? ⟨b0, 2, none⟩ = some (.bool ou) := bk.out.cell _
  clear hW hb0
  rcases HWY.out with ⟨rfl, hwy⟩ | ⟨rfl, hwy⟩
  · have HL := Lib.hid (fun hx => HL.out ([32, 111, 117, 116, 32] : List UInt8) hx hwy)
    have wsz : (S ([32, 111, 117, 116, 32] : List UInt8)).size = 5 := rfl
    clear hwy HWY
    go_upto_region 6 with fail
    clear c2
    go_loopw [4, 5] (fun u4 u5 wr => ∃ (k : Nat) (l : List UInt8), u5 = .int .i64 k ∧ k ≤ dn ∧ Hid (l = (dt.take k).flatMap hexC) ∧ Hid (wr.ownsRow W.heap.size 5 1 u4 l.length (Lib.byteCells l)) ∧ Hid (Below W.heap.size W wr)) (fun _ u5 _ => dn - (intOf u5).toNat)
    case atStart => exact ⟨0, [], rfl, Nat.zero_le _, Lib.hid (by simp), Lib.hid (World.ownsRow_nil _ _ _ _), Lib.hid (Below.refl _ _)⟩
    case round =>
      obtain ⟨k, l, rfl, hk, HLL, HO, HW⟩ := hrel
      have HS := Lib.hid HW.out.size
      have c4 : wr.cell? ⟨b0, 4, none⟩ = some (.slice pd dn cd) := (HW.out.cell HBL.out).trans (bk.out.cell 4)
      by_cases hlt : k < dn
      · have x1 : decide ((k : Int) < (dn : Int)) = true := decide_eq_true (by omega)
        have x1' : decide (k < dn) = true := decide_eq_true hlt
        obtain ⟨c, hc⟩ : ∃ c, dt[k]? = some c := ⟨_, List.getElem?_eq_getElem (by have := HDN.out; omega)⟩
        have HNX := Lib.hid (hex_snoc hc)
        obtain ⟨g, o, rfl, hcell⟩ := bytes_cell HBW.out (fun e => by rw [e] at hc; cases hc)
        have HCC := Lib.hid (hcell k c hc)
        have HGL := Lib.hid (World.block_lt_of_cell? _ _ HCC.out)
        have hc256 := c.toNat_lt
        have HC16 : Hid (c.toNat / 16 < 16 ∧ c.toNat % 16 < 16) := Lib.hid (by omega)
        have HWQ : Hid (IntKind.u8.wrap ((c.toNat : Int) / 16) = (c.toNat : Int) / 16 ∧ IntKind.u8.wrap ((c.toNat : Int) % 16) = (c.toNat : Int) % 16) := Lib.hid ⟨IntWalk.u8_in _ (by omega), IntWalk.u8_in _ (by omega)⟩
        have HLN : Hid (l.length ≤ 131150) := Lib.hid (by rw [HLL.out, hexs_len, List.length_take]; omega)
        clear hc hcell
        go_upto_region 8 with fail
        clear c4
        refine region_T (fun z => Below W.heap.size W z) (fun _ => false) (by kernel_rfl) ?_
        have hS : Below W.heap.size W wr.drew := HW.out.drew
        have HOD := Lib.hid (own_later HO.out ((Below.refl _ _).drew))
        have HSD : Hid (W.heap.size ≤ wr.drew.heap.size) := Lib.hid HS.out
        change wpAnyT _ _ _ _ _ _ _ _ _ wr.drew
        generalize wr.drew = Z at hS HOD HSD ⊢
        refine anyT_take 0 (u4) rfl (by kernel_rfl) (by kernel_rfl) (by kernel_rfl) (by kernel_rfl) (fun _ _ _ h => h) rfl (fun w hw => ?_) hS ?_
        · go_simp; try rfl
        simp only [Act.put, List.getElem_toArray, List.getElem_cons_succ, List.getElem_cons_zero, List.setIfInBounds_toArray, List.set_cons_zero, List.set_cons_succ]
        refine anyT_take 1 (.pointer (some ⟨b0, 4, none⟩)) rfl (by kernel_rfl) (by kernel_rfl) (by kernel_rfl) (by kernel_rfl) (fun _ _ _ h => h) rfl (fun w hw => ?_) hS ?_
        · go_simp; try rfl
        simp only [Act.put, List.getElem_toArray, List.getElem_cons_succ, List.getElem_cons_zero, List.setIfInBounds_toArray, List.set_cons_zero, List.set_cons_succ]
        refine anyT_take 2 (.slice (some ⟨g, o, none⟩) dn cd) rfl (by kernel_rfl) (by kernel_rfl) (by kernel_rfl) (by kernel_rfl) (fun _ _ _ h => h) rfl (fun w hw => ?_) hS ?_
        · have c4 : w.cell? ⟨b0, 4, none⟩ = some (.slice (some ⟨g, o, none⟩) dn cd) := (hw.cell HBL.out).trans (bk.out.cell 4); go_simp; try rfl
        simp only [Act.put, List.getElem_toArray, List.getElem_cons_succ, List.getElem_cons_zero, List.setIfInBounds_toArray, List.set_cons_zero, List.set_cons_succ]
        refine anyT_take 3 (.int .i64 (k : Int)) rfl (by kernel_rfl) (by kernel_rfl) (by kernel_rfl) (by kernel_rfl) (fun _ _ _ h => h) rfl (fun w hw => ?_) hS ?_
        · go_simp; try rfl
        simp only [Act.put, List.getElem_toArray, List.getElem_cons_succ, List.getElem_cons_zero, List.setIfInBounds_toArray, List.set_cons_zero, List.set_cons_succ]
        refine anyT_take 4 (.pointer (some ⟨g, o + k, none⟩)) rfl (by kernel_rfl) (by kernel_rfl) (by kernel_rfl) (by kernel_rfl) (fun _ _ _ h => h) rfl (fun w hw => ?_) hS ?_
        · go_simp; (first | done | rfl | exact fun h => absurd h (by have := of_decide_eq_true x1'; omega))
        simp only [Act.put, List.getElem_toArray, List.getElem_cons_succ, List.getElem_cons_zero, List.setIfInBounds_toArray, List.set_cons_zero, List.set_cons_succ]
        refine anyT_take 5 (.int .u8 (c.toNat : Int)) rfl (by kernel_rfl) (by kernel_rfl) (by kernel_rfl) (by kernel_rfl) (fun _ _ _ h => h) rfl (fun w hw => ?_) hS ?_
        · have d0 : w.cell? ⟨g, o + k, none⟩ = some (.int .u8 (c.toNat : Int)) := (hw.cell HGL.out).trans HCC.out; go_simp; try rfl
        simp only [Act.put, List.getElem_toArray, List.getElem_cons_succ, List.getElem_cons_zero, List.setIfInBounds_toArray, List.set_cons_zero, List.set_cons_succ]
        refine anyT_take 6 (.int .u8 ((c.toNat / 16 : Nat) : Int)) rfl (by kernel_rfl) (by kernel_rfl) (by kernel_rfl) (by kernel_rfl) (fun _ _ _ h => h) rfl (fun w hw => ?_) hS ?_
        · have hw1 := HWQ.out; go_simp; (first | done | rfl | exact HWQ.out.1 | exact HWQ.out.2)
        simp only [Act.put, List.getElem_toArray, List.getElem_cons_succ, List.getElem_cons_zero, List.setIfInBounds_toArray, List.set_cons_zero, List.set_cons_succ]
        refine anyT_take 7 (.int .u8 ((digC (c.toNat / 16)).toNat : Int)) rfl (by kernel_rfl) (by kernel_rfl) (by kernel_rfl) (by kernel_rfl) (fun _ _ _ h => h) rfl (fun w hw => ?_) hS ?_
        · exact exec_dig _ _ rfl rfl _ HC16.out.1 rfl w
        simp only [Act.put, List.getElem_toArray, List.getElem_cons_succ, List.getElem_cons_zero, List.setIfInBounds_toArray, List.set_cons_zero, List.set_cons_succ]
        refine anyT_take 8 (.pointer (some ⟨b0, 4, none⟩)) rfl (by kernel_rfl) (by kernel_rfl) (by kernel_rfl) (by kernel_rfl) (fun _ _ _ h => h) rfl (fun w hw => ?_) hS ?_
        · go_simp; try rfl
        simp only [Act.put, List.getElem_toArray, List.getElem_cons_succ, List.getElem_cons_zero, List.setIfInBounds_toArray, List.set_cons_zero, List.set_cons_succ]
        refine anyT_take 9 (.slice (some ⟨g, o, none⟩) dn cd) rfl (by kernel_rfl) (by kernel_rfl) (by kernel_rfl) (by kernel_rfl) (fun _ _ _ h => h) rfl (fun w hw => ?_) hS ?_
        · have c4 : w.cell? ⟨b0, 4, none⟩ = some (.slice (some ⟨g, o, none⟩) dn cd) := (hw.cell HBL.out).trans (bk.out.cell 4); go_simp; try rfl
        simp only [Act.put, List.getElem_toArray, List.getElem_cons_succ, List.getElem_cons_zero, List.setIfInBounds_toArray, List.set_cons_zero, List.set_cons_succ]
        refine anyT_take 10 (.int .i64 (k : Int)) rfl (by kernel_rfl) (by kernel_rfl) (by kernel_rfl) (by kernel_rfl) (fun _ _ _ h => h) rfl (fun w hw => ?_) hS ?_
        · go_simp; try rfl
        simp only [Act.put, List.getElem_toArray, List.getElem_cons_succ, List.getElem_cons_zero, List.setIfInBounds_toArray, List.set_cons_zero, List.set_cons_succ]
        refine anyT_take 11 (.pointer (some ⟨g, o + k, none⟩)) rfl (by kernel_rfl) (by kernel_rfl) (by kernel_rfl) (by kernel_rfl) (fun _ _ _ h => h) rfl (fun w hw => ?_) hS ?_
        · go_simp; (first | done | rfl | exact fun h => absurd h (by have := of_decide_eq_true x1'; omega))
        simp only [Act.put, List.getElem_toArray, List.getElem_cons_succ, List.getElem_cons_zero, List.setIfInBounds_toArray, List.set_cons_zero, List.set_cons_succ]
        refine anyT_take 12 (.int .u8 (c.toNat : Int)) rfl (by kernel_rfl) (by kernel_rfl) (by kernel_rfl) (by kernel_rfl) (fun _ _ _ h => h) rfl (fun w hw => ?_) hS ?_
        · have d0 : w.cell? ⟨g, o + k, none⟩ = some (.int .u8 (c.toNat : Int)) := (hw.cell HGL.out).trans HCC.out; go_simp; try rfl
        simp only [Act.put, List.getElem_toArray, List.getElem_cons_succ, List.getElem_cons_zero, List.setIfInBounds_toArray, List.set_cons_zero, List.set_cons_succ]
        refine anyT_take 13 (.int .u8 ((c.toNat % 16 : Nat) : Int)) rfl (by kernel_rfl) (by kernel_rfl) (by kernel_rfl) (by kernel_rfl) (fun _ _ _ h => h) rfl (fun w hw => ?_) hS ?_
        · have hw1 := HWQ.out; go_simp; (first | done | rfl | exact HWQ.out.1 | exact HWQ.out.2)
        simp only [Act.put, List.getElem_toArray, List.getElem_cons_succ, List.getElem_cons_zero, List.setIfInBounds_toArray, List.set_cons_zero, List.set_cons_succ]
        refine anyT_take 14 (.int .u8 ((digC (c.toNat % 16)).toNat : Int)) rfl (by kernel_rfl) (by kernel_rfl) (by kernel_rfl) (by kernel_rfl) (fun _ _ _ h => h) rfl (fun w hw => ?_) hS ?_
        · exact exec_dig _ _ rfl rfl _ HC16.out.2 rfl w
        simp only [Act.put, List.getElem_toArray, List.getElem_cons_succ, List.getElem_cons_zero, List.setIfInBounds_toArray, List.set_cons_zero, List.set_cons_succ]
        refine anyT_step 15 (by kernel_rfl) rfl rfl ?_
        refine wp_slice_two _ _ rfl ((digC (c.toNat / 16)).toNat : Int) ((digC (c.toNat % 16)).toNat : Int) rfl rfl ?_
        have hS2 : Below W.heap.size W (Z.alloc (.cells #[.int .u8 ((digC (c.toNat / 16)).toNat : Int), .int .u8 ((digC (c.toNat % 16)).toNat : Int)] 5)) := hS.alloc HSD.out _
        refine ⟨.inr hS2, ?_⟩
        simp only [Act.put, List.getElem_toArray, List.getElem_cons_succ, List.getElem_cons_zero, List.setIfInBounds_toArray, List.set_cons_zero, List.set_cons_succ]
        refine anyT_step 16 (by kernel_rfl) rfl rfl ?_
        refine wp_append_two _ _ 26 rfl 5 i0 _ 1 1 Tryz.underlying26 hi hz0 hz1 hz2 (by rfl) (by omega) W.heap.size u4 l.length _ rfl (HOD.out.alloc _) ⟨Z.heap.size, 0, none⟩ 2 2 (Lib.byteCells [digC (c.toNat / 16), digC (c.toNat % 16)]) rfl rfl (news_of _ _ _) (fun u hu => by simp only [Lib.byteCells, List.mem_map] at hu; obtain ⟨x, _, rfl⟩ := hu; rfl) (by omega) (by have := HLN.out; unfold maxLen; omega) (by have := HLN.out; omega) (by have := HSD.out; simp; omega) ?_
        intro g2 cap Z3 hown hgr
        have hown2 : Z3.ownsRow W.heap.size 5 1 (.slice (some ⟨g2, 0, none⟩) (l.length + 2) cap) (l ++ [digC (c.toNat / 16), digC (c.toNat % 16)]).length (Lib.byteCells (l ++ [digC (c.toNat / 16), digC (c.toNat % 16)])) := by
          rw [List.length_append, cells_app]; exact hown
        have hap : Ap u4 (Z.alloc (.cells #[.int .u8 ((digC (c.toNat / 16)).toNat : Int), .int .u8 ((digC (c.toNat % 16)).toNat : Int)] 5)) (.slice (some ⟨g2, 0, none⟩) (l.length + 2) cap) Z3 := Ap.row hgr
        have hB3 : Below W.heap.size W Z3 := hS2.trans (hap.below (own_ge HOD.out) (by have := HSD.out; simp; omega))
        refine ⟨.inr hB3, ?_⟩
        simp only [Act.put, List.getElem_toArray, List.getElem_cons_succ, List.getElem_cons_zero, List.setIfInBounds_toArray, List.set_cons_zero, List.set_cons_succ]
        refine anyT_step 17 (by kernel_rfl) rfl rfl ?_
        refine wp_assign_any _ rfl ?_
        refine ⟨.inr hB3, ?_⟩
        simp only [Act.put, List.getElem_toArray, List.getElem_cons_succ, List.getElem_cons_zero, List.setIfInBounds_toArray, List.set_cons_zero, List.set_cons_succ]
        refine anyT_done (by kernel_rfl) ?_
        have HN2 : Hid (l ++ [digC (c.toNat / 16), digC (c.toNat % 16)] = (dt.take (k + 1)).flatMap hexC) := Lib.hid (by rw [HNX.out, HLL.out])
        have HO2 := Lib.hid hown2
        have HB3 := Lib.hid hB3
        clear hown hown2 hgr hap hS hS2 hB3 HOD HSD
        go_wp2
        exact ⟨⟨k + 1, _, by go_num, by omega, HN2, HO2, HB3⟩, by simp [intOf]; omega⟩
      · have x1 : decide ((k : Int) < (dn : Int)) = false := decide_eq_false (by omega)
        have x1' : decide (k < dn) = false := decide_eq_false hlt
        have HF : Hid (dt.flatMap hexC = l) := Lib.hid (by rw [HLL.out, show k = dn by omega, HDT.out])
        have HLN := Lib.hid (HHX.out l HF.out)
        have HFIN := Lib.hid (HL.out l HF.out)
        obtain ⟨px, cx, rfl, hbx, _, hsx⟩ := own_bytes HO.out
        have HBX := Lib.hid hbx
        have HSX := Lib.hid hsx
        have hcv : ∀ z : Later wr, (convert 26 9 (.slice px l.length cx)).run Tryz.prog z.val = .ok (.string (S l)) z.val := fun z => conv_at (HBX.out.later z.property) HSX.out rfl
        obtain ⟨hxs, hhx⟩ : ∃ q, S l = q := ⟨_, rfl⟩
        have hxz : hxs.size ≤ 131150 := by rw [← hhx, S_size]; exact HLN.out
        obtain ⟨ws, hws⟩ : ∃ q, S ([32, 111, 117, 116, 32] : List UInt8) = q := ⟨_, rfl⟩
        rw [hhx] at hcv
        rw [hhx, hws] at HFIN
        rw [hws] at wsz
        obtain ⟨s1z, s2z, s3z⟩ := HSZ.out
        have z1 : ¬ 9223372036854775807 < s1.size + 1 := by omega
        have z2 : ¬ 9223372036854775807 < s1.size + 1 + s2.size := by omega
        have z3 : ¬ 9223372036854775807 < s1.size + 1 + s2.size + 5 := by omega
        have z4 : ¬ 9223372036854775807 < s1.size + 1 + s2.size + 5 + s3.size := by omega
        have z5 : ¬ 9223372036854775807 < s1.size + 1 + s2.size + 5 + s3.size + 2 := by omega
        have z6 : ¬ 9223372036854775807 < s1.size + 1 + s2.size + 5 + s3.size + 2 + hxs.size := by omega
        have hlit : (⟨#[32, 111, 117, 116, 32]⟩ : ByteArray) = ws := hws
        rw [← hlit] at HFIN
        have HHW := Lib.hid hlit
        have k0 : ∀ z : Later wr, z.val.cell? ⟨b0, 0, none⟩ = some (.int .i64 tk) := Later.cell ((HW.out.cell HBL.out).trans (bk.out.cell 0))
        have k1 : ∀ z : Later wr, z.val.cell? ⟨b0, 1, none⟩ = some (.int .i64 nd) := Later.cell ((HW.out.cell HBL.out).trans (bk.out.cell 1))
        have k3 : ∀ z : Later wr, z.val.cell? ⟨b0, 3, none⟩ = some (.int .i64 lg) := Later.cell ((HW.out.cell HBL.out).trans (bk.out.cell 3))
        clear hbx hsx hhx hws hlit wsz hlt s1z s2z s3z
        go_upto_region 9 with fail
        clear c4
        refine region_later (by kernel_rfl) (by kernel_rfl) ?_
        repeat (first | go_big_quiet_skip | (go_big_quiet_want; first | (go_big_quiet_op; first | go_big_quiet_on | go_big_quiet_call ((go_at_call 41; first | (with_reducible exact calls_later (HD1.out _)) | (with_reducible exact calls_later (HD2.out _)) | (with_reducible exact calls_later (HD3.out _))))) | skip))
        refine wpQuiet_nil ?_
        intro z hz
        have HZ := Lib.hid (HW.out.trans (hz.mono HW.out.size))
        clear hz hcv k0 k1 k3
        go_wp2
        go_ret
        exact ⟨by rw [← HFIN.out]; rfl, by rw [HB0.out]; exact Hid.out (keepB BW HB0 HZ)⟩
  · have HL := Lib.hid (fun hx => HL.out ([32, 105, 110, 32] : List UInt8) hx hwy)
    have wsz : (S ([32, 105, 110, 32] : List UInt8)).size = 4 := rfl
    clear hwy HWY
    go_upto_region 6 with fail
    clear c2
    go_loopw [4, 5] (fun u4 u5 wr => ∃ (k : Nat) (l : List UInt8), u5 = .int .i64 k ∧ k ≤ dn ∧ Hid (l = (dt.take k).flatMap hexC) ∧ Hid (wr.ownsRow W.heap.size 5 1 u4 l.length (Lib.byteCells l)) ∧ Hid (Below W.heap.size W wr)) (fun _ u5 _ => dn - (intOf u5).toNat)
    case atStart => exact ⟨0, [], rfl, Nat.zero_le _, Lib.hid (by simp), Lib.hid (World.ownsRow_nil _ _ _ _), Lib.hid (Below.refl _ _)⟩
    case round =>
      obtain ⟨k, l, rfl, hk, HLL, HO, HW⟩ := hrel
      have HS := Lib.hid HW.out.size
      have c4 : wr.cell? ⟨b0, 4, none⟩ = some (.slice pd dn cd) := (HW.out.cell HBL.out).trans (bk.out.cell 4)
      by_cases hlt : k < dn
      · have x1 : decide ((k : Int) < (dn : Int)) = true := decide_eq_true (by omega)
        have x1' : decide (k < dn) = true := decide_eq_true hlt
        obtain ⟨c, hc⟩ : ∃ c, dt[k]? = some c := ⟨_, List.getElem?_eq_getElem (by have := HDN.out; omega)⟩
        have HNX := Lib.hid (hex_snoc hc)
        obtain ⟨g, o, rfl, hcell⟩ := bytes_cell HBW.out (fun e => by rw [e] at hc; cases hc)
        have HCC := Lib.hid (hcell k c hc)
        have HGL := Lib.hid (World.block_lt_of_cell? _ _ HCC.out)
        have hc256 := c.toNat_lt
        have HC16 : Hid (c.toNat / 16 < 16 ∧ c.toNat % 16 < 16) := Lib.hid (by omega)
        have HWQ : Hid (IntKind.u8.wrap ((c.toNat : Int) / 16) = (c.toNat : Int) / 16 ∧ IntKind.u8.wrap ((c.toNat : Int) % 16) = (c.toNat : Int) % 16) := Lib.hid ⟨IntWalk.u8_in _ (by omega), IntWalk.u8_in _ (by omega)⟩
        have HLN : Hid (l.length ≤ 131150) := Lib.hid (by rw [HLL.out, hexs_len, List.length_take]; omega)
        clear hc hcell
        go_upto_region 8 with fail
        clear c4
        refine region_T (fun z => Below W.heap.size W z) (fun _ => false) (by kernel_rfl) ?_
        have hS : Below W.heap.size W wr.drew := HW.out.drew
        have HOD := Lib.hid (own_later HO.out ((Below.refl _ _).drew))
        have HSD : Hid (W.heap.size ≤ wr.drew.heap.size) := Lib.hid HS.out
        change wpAnyT _ _ _ _ _ _ _ _ _ wr.drew
        generalize wr.drew = Z at hS HOD HSD ⊢
        refine anyT_take 0 (u4) rfl (by kernel_rfl) (by kernel_rfl) (by kernel_rfl) (by kernel_rfl) (fun _ _ _ h => h) rfl (fun w hw => ?_) hS ?_
        · go_simp; try rfl
        simp only [Act.put, List.getElem_toArray, List.getElem_cons_succ, List.getElem_cons_zero, List.setIfInBounds_toArray, List.set_cons_zero, List.set_cons_succ]
        refine anyT_take 1 (.pointer (some ⟨b0, 4, none⟩)) rfl (by kernel_rfl) (by kernel_rfl) (by kernel_rfl) (by kernel_rfl) (fun _ _ _ h => h) rfl (fun w hw => ?_) hS ?_
        · go_simp; try rfl
        simp only [Act.put, List.getElem_toArray, List.getElem_cons_succ, List.getElem_cons_zero, List.setIfInBounds_toArray, List.set_cons_zero, List.set_cons_succ]
        refine anyT_take 2 (.slice (some ⟨g, o, none⟩) dn cd) rfl (by kernel_rfl) (by kernel_rfl) (by kernel_rfl) (by kernel_rfl) (fun _ _ _ h => h) rfl (fun w hw => ?_) hS ?_
        · have c4 : w.cell? ⟨b0, 4, none⟩ = some (.slice (some ⟨g, o, none⟩) dn cd) := (hw.cell HBL.out).trans (bk.out.cell 4); go_simp; try rfl
        simp only [Act.put, List.getElem_toArray, List.getElem_cons_succ, List.getElem_cons_zero, List.setIfInBounds_toArray, List.set_cons_zero, List.set_cons_succ]
        refine anyT_take 3 (.int .i64 (k : Int)) rfl (by kernel_rfl) (by kernel_rfl) (by kernel_rfl) (by kernel_rfl) (fun _ _ _ h => h) rfl (fun w hw => ?_) hS ?_
        · go_simp; try rfl
        simp only [Act.put, List.getElem_toArray, List.getElem_cons_succ, List.getElem_cons_zero, List.setIfInBounds_toArray, List.set_cons_zero, List.set_cons_succ]
        refine anyT_take 4 (.pointer (some ⟨g, o + k, none⟩)) rfl (by kernel_rfl) (by kernel_rfl) (by kernel_rfl) (by kernel_rfl) (fun _ _ _ h => h) rfl (fun w hw => ?_) hS ?_
        · go_simp; (first | done | rfl | exact fun h => absurd h (by have := of_decide_eq_true x1'; omega))
        simp only [Act.put, List.getElem_toArray, List.getElem_cons_succ, List.getElem_cons_zero, List.setIfInBounds_toArray, List.set_cons_zero, List.set_cons_succ]
        refine anyT_take 5 (.int .u8 (c.toNat : Int)) rfl (by kernel_rfl) (by kernel_rfl) (by kernel_rfl) (by kernel_rfl) (fun _ _ _ h => h) rfl (fun w hw => ?_) hS ?_
        · have d0 : w.cell? ⟨g, o + k, none⟩ = some (.int .u8 (c.toNat : Int)) := (hw.cell HGL.out).trans HCC.out; go_simp; try rfl
        simp only [Act.put, List.getElem_toArray, List.getElem_cons_succ, List.getElem_cons_zero, List.setIfInBounds_toArray, List.set_cons_zero, List.set_cons_succ]
        refine anyT_take 6 (.int .u8 ((c.toNat / 16 : Nat) : Int)) rfl (by kernel_rfl) (by kernel_rfl) (by kernel_rfl) (by kernel_rfl) (fun _ _ _ h => h) rfl (fun w hw => ?_) hS ?_
        · have hw1 := HWQ.out; go_simp; (first | done | rfl | exact HWQ.out.1 | exact HWQ.out.2)
        simp only [Act.put, List.getElem_toArray, List.getElem_cons_succ, List.getElem_cons_zero, List.setIfInBounds_toArray, List.set_cons_zero, List.set_cons_succ]
        refine anyT_take 7 (.int .u8 ((digC (c.toNat / 16)).toNat : Int)) rfl (by kernel_rfl) (by kernel_rfl) (by kernel_rfl) (by kernel_rfl) (fun _ _ _ h => h) rfl (fun w hw => ?_) hS ?_
        · exact exec_dig _ _ rfl rfl _ HC16.out.1 rfl w
        simp only [Act.put, List.getElem_toArray, List.getElem_cons_succ, List.getElem_cons_zero, List.setIfInBounds_toArray, List.set_cons_zero, List.set_cons_succ]
        refine anyT_take 8 (.pointer (some ⟨b0, 4, none⟩)) rfl (by kernel_rfl) (by kernel_rfl) (by kernel_rfl) (by kernel_rfl) (fun _ _ _ h => h) rfl (fun w hw => ?_) hS ?_
        · go_simp; try rfl
        simp only [Act.put, List.getElem_toArray, List.getElem_cons_succ, List.getElem_cons_zero, List.setIfInBounds_toArray, List.set_cons_zero, List.set_cons_succ]
        refine anyT_take 9 (.slice (some ⟨g, o, none⟩) dn cd) rfl (by kernel_rfl) (by kernel_rfl) (by kernel_rfl) (by kernel_rfl) (fun _ _ _ h => h) rfl (fun w hw => ?_) hS ?_
        · have c4 : w.cell? ⟨b0, 4, none⟩ = some (.slice (some ⟨g, o, none⟩) dn cd) := (hw.cell HBL.out).trans (bk.out.cell 4); go_simp; try rfl
        simp only [Act.put, List.getElem_toArray, List.getElem_cons_succ, List.getElem_cons_zero, List.setIfInBounds_toArray, List.set_cons_zero, List.set_cons_succ]
        refine anyT_take 10 (.int .i64 (k : Int)) rfl (by kernel_rfl) (by kernel_rfl) (by kernel_rfl) (by kernel_rfl) (fun _ _ _ h => h) rfl (fun w hw => ?_) hS ?_
        · go_simp; try rfl
        simp only [Act.put, List.getElem_toArray, List.getElem_cons_succ, List.getElem_cons_zero, List.setIfInBounds_toArray, List.set_cons_zero, List.set_cons_succ]
        refine anyT_take 11 (.pointer (some ⟨g, o + k, none⟩)) rfl (by kernel_rfl) (by kernel_rfl) (by kernel_rfl) (by kernel_rfl) (fun _ _ _ h => h) rfl (fun w hw => ?_) hS ?_
        · go_simp; (first | done | rfl | exact fun h => absurd h (by have := of_decide_eq_true x1'; omega))
        simp only [Act.put, List.getElem_toArray, List.getElem_cons_succ, List.getElem_cons_zero, List.setIfInBounds_toArray, List.set_cons_zero, List.set_cons_succ]
        refine anyT_take 12 (.int .u8 (c.toNat : Int)) rfl (by kernel_rfl) (by kernel_rfl) (by kernel_rfl) (by kernel_rfl) (fun _ _ _ h => h) rfl (fun w hw => ?_) hS ?_
        · have d0 : w.cell? ⟨g, o + k, none⟩ = some (.int .u8 (c.toNat : Int)) := (hw.cell HGL.out).trans HCC.out; go_simp; try rfl
        simp only [Act.put, List.getElem_toArray, List.getElem_cons_succ, List.getElem_cons_zero, List.setIfInBounds_toArray, List.set_cons_zero, List.set_cons_succ]
        refine anyT_take 13 (.int .u8 ((c.toNat % 16 : Nat) : Int)) rfl (by kernel_rfl) (by kernel_rfl) (by kernel_rfl) (by kernel_rfl) (fun _ _ _ h => h) rfl (fun w hw => ?_) hS ?_
        · have hw1 := HWQ.out; go_simp; (first | done | rfl | exact HWQ.out.1 | exact HWQ.out.2)
        simp only [Act.put, List.getElem_toArray, List.getElem_cons_succ, List.getElem_cons_zero, List.setIfInBounds_toArray, List.set_cons_zero, List.set_cons_succ]
        refine anyT_take 14 (.int .u8 ((digC (c.toNat % 16)).toNat : Int)) rfl (by kernel_rfl) (by kernel_rfl) (by kernel_rfl) (by kernel_rfl) (fun _ _ _ h => h) rfl (fun w hw => ?_) hS ?_
        · exact exec_dig _ _ rfl rfl _ HC16.out.2 rfl w
        simp only [Act.put, List.getElem_toArray, List.getElem_cons_succ, List.getElem_cons_zero, List.setIfInBounds_toArray, List.set_cons_zero, List.set_cons_succ]
        refine anyT_step 15 (by kernel_rfl) rfl rfl ?_
        refine wp_slice_two _ _ rfl ((digC (c.toNat / 16)).toNat : Int) ((digC (c.toNat % 16)).toNat : Int) rfl rfl ?_
        have hS2 : Below W.heap.size W (Z.alloc (.cells #[.int .u8 ((digC (c.toNat / 16)).toNat : Int), .int .u8 ((digC (c.toNat % 16)).toNat : Int)] 5)) := hS.alloc HSD.out _
        refine ⟨.inr hS2, ?_⟩
        simp only [Act.put, List.getElem_toArray, List.getElem_cons_succ, List.getElem_cons_zero, List.setIfInBounds_toArray, List.set_cons_zero, List.set_cons_succ]
        refine anyT_step 16 (by kernel_rfl) rfl rfl ?_
        refine wp_append_two _ _ 26 rfl 5 i0 _ 1 1 Tryz.underlying26 hi hz0 hz1 hz2 (by rfl) (by omega) W.heap.size u4 l.length _ rfl (HOD.out.alloc _) ⟨Z.heap.size, 0, none⟩ 2 2 (Lib.byteCells [digC (c.toNat / 16), digC (c.toNat % 16)]) rfl rfl (news_of _ _ _) (fun u hu => by simp only [Lib.byteCells, List.mem_map] at hu; obtain ⟨x, _, rfl⟩ := hu; rfl) (by omega) (by have := HLN.out; unfold maxLen; omega) (by have := HLN.out; omega) (by have := HSD.out; simp; omega) ?_
        intro g2 cap Z3 hown hgr
        have hown2 : Z3.ownsRow W.heap.size 5 1 (.slice (some ⟨g2, 0, none⟩) (l.length + 2) cap) (l ++ [digC (c.toNat / 16), digC (c.toNat % 16)]).length (Lib.byteCells (l ++ [digC (c.toNat / 16), digC (c.toNat % 16)])) := by
          rw [List.length_append, cells_app]; exact hown
        have hap : Ap u4 (Z.alloc (.cells #[.int .u8 ((digC (c.toNat / 16)).toNat : Int), .int .u8 ((digC (c.toNat % 16)).toNat : Int)] 5)) (.slice (some ⟨g2, 0, none⟩) (l.length + 2) cap) Z3 := Ap.row hgr
        have hB3 : Below W.heap.size W Z3 := hS2.trans (hap.below (own_ge HOD.out) (by have := HSD.out; simp; omega))
        refine ⟨.inr hB3, ?_⟩
        simp only [Act.put, List.getElem_toArray, List.getElem_cons_succ, List.getElem_cons_zero, List.setIfInBounds_toArray, List.set_cons_zero, List.set_cons_succ]
        refine anyT_step 17 (by kernel_rfl) rfl rfl ?_
        refine wp_assign_any _ rfl ?_
        refine ⟨.inr hB3, ?_⟩
        simp only [Act.put, List.getElem_toArray, List.getElem_cons_succ, List.getElem_cons_zero, List.setIfInBounds_toArray, List.set_cons_zero, List.set_cons_succ]
        refine anyT_done (by kernel_rfl) ?_
        have HN2 : Hid (l ++ [digC (c.toNat / 16), digC (c.toNat % 16)] = (dt.take (k + 1)).flatMap hexC) := Lib.hid (by rw [HNX.out, HLL.out])
        have HO2 := Lib.hid hown2
        have HB3 := Lib.hid hB3
        clear hown hown2 hgr hap hS hS2 hB3 HOD HSD
        go_wp2
        exact ⟨⟨k + 1, _, by go_num, by omega, HN2, HO2, HB3⟩, by simp [intOf]; omega⟩
      · have x1 : decide ((k : Int) < (dn : Int)) = false := decide_eq_false (by omega)
        have x1' : decide (k < dn) = false := decide_eq_false hlt
        have HF : Hid (dt.flatMap hexC = l) := Lib.hid (by rw [HLL.out, show k = dn by omega, HDT.out])
        have HLN := Lib.hid (HHX.out l HF.out)
        have HFIN := Lib.hid (HL.out l HF.out)
        obtain ⟨px, cx, rfl, hbx, _, hsx⟩ := own_bytes HO.out
        have HBX := Lib.hid hbx
        have HSX := Lib.hid hsx
        have hcv : ∀ z : Later wr, (convert 26 9 (.slice px l.length cx)).run Tryz.prog z.val = .ok (.string (S l)) z.val := fun z => conv_at (HBX.out.later z.property) HSX.out rfl
        obtain ⟨hxs, hhx⟩ : ∃ q, S l = q := ⟨_, rfl⟩
        have hxz : hxs.size ≤ 131150 := by rw [← hhx, S_size]; exact HLN.out
        obtain ⟨ws, hws⟩ : ∃ q, S ([32, 105, 110, 32] : List UInt8) = q := ⟨_, rfl⟩
        rw [hhx] at hcv
        rw [hhx, hws] at HFIN
        rw [hws] at wsz
        obtain ⟨s1z, s2z, s3z⟩ := HSZ.out
        have z1 : ¬ 9223372036854775807 < s1.size + 1 := by omega
        have z2 : ¬ 9223372036854775807 < s1.size + 1 + s2.size := by omega
        have z3 : ¬ 9223372036854775807 < s1.size + 1 + s2.size + 4 := by omega
        have z4 : ¬ 9223372036854775807 < s1.size + 1 + s2.size + 4 + s3.size := by omega
        have z5 : ¬ 9223372036854775807 < s1.size + 1 + s2.size + 4 + s3.size + 2 := by omega
        have z6 : ¬ 9223372036854775807 < s1.size + 1 + s2.size + 4 + s3.size + 2 + hxs.size := by omega
        have hlit : (⟨#[32, 105, 110, 32]⟩ : ByteArray) = ws := hws
        rw [← hlit] at HFIN
        have HHW := Lib.hid hlit
        have k0 : ∀ z : Later wr, z.val.cell? ⟨b0, 0, none⟩ = some (.int .i64 tk) := Later.cell ((HW.out.cell HBL.out).trans (bk.out.cell 0))
        have k1 : ∀ z : Later wr, z.val.cell? ⟨b0, 1, none⟩ = some (.int .i64 nd) := Later.cell ((HW.out.cell HBL.out).trans (bk.out.cell 1))
        have k3 : ∀ z : Later wr, z.val.cell? ⟨b0, 3, none⟩ = some (.int .i64 lg) := Later.cell ((HW.out.cell HBL.out).trans (bk.out.cell 3))
        clear hbx hsx hhx hws hlit wsz hlt s1z s2z s3z
        go_upto_region 9 with fail
        clear c4
        refine region_later (by kernel_rfl) (by kernel_rfl) ?_
        repeat (first | go_big_quiet_skip | (go_big_quiet_want; first | (go_big_quiet_op; first | go_big_quiet_on | go_big_quiet_call ((go_at_call 41; first | (with_reducible exact calls_later (HD1.out _)) | (with_reducible exact calls_later (HD2.out _)) | (with_reducible exact calls_later (HD3.out _))))) | skip))
        refine wpQuiet_nil ?_
        intro z hz
        have HZ := Lib.hid (HW.out.trans (hz.mono HW.out.size))
        clear hz hcv k0 k1 k3
        go_wp2
        go_ret
        exact ⟨by rw [← HFIN.out]; rfl, by rw [HB0.out]; exact Hid.out (keepB BW HB0 HZ)⟩
end Go.Proofs.YtpciggnanlflkaaGreatDoor.Ad
namespace Go.Proofs.YtpciggnanlflkaaGreatDoor.Ad
set_option linter.unusedVariables false
set_option linter.unusedSimpArgs false
open Go.RowKit Go.Maps W
structure Buf (w : World) (g cap : Nat) (l : List UInt8) : Prop where
  lt : g < w.heap.size
  le : l.length ≤ cap
  cells : ∀ (i : Nat) (x : UInt8), l[i]? = some x → w.cell? ⟨g, i, none⟩ = some (.int .u8 (x.toNat : Int))
  room : ∀ i, l.length ≤ i → i < cap → (w.cell? ⟨g, i, none⟩).isSome = true ∧ w.frozen? ⟨g, i, none⟩ = false
theorem Buf.block {w w' : World} {g cap : Nat} {l : List UInt8} (h : Buf w g cap l) (hb : w'.heap[g]? = w.heap[g]?) (hs : w.heap.size ≤ w'.heap.size) : Buf w' g cap l :=
  ⟨Nat.lt_of_lt_of_le h.lt hs, h.le, fun i x hx => (World.cell?_of_block hb).trans (h.cells i x hx), fun i h1 h2 => by
    have h3 := h.room i h1 h2
    exact ⟨by rw [World.cell?_of_block (show w'.heap[(⟨g, i, none⟩ : Go.Addr).block]? = w.heap[(⟨g, i, none⟩ : Go.Addr).block]? from hb)]; exact h3.1, by
      unfold World.frozen? at h3 ⊢
      rw [hb]; exact h3.2⟩⟩
theorem Buf.later {w w' : World} {g cap : Nat} {l : List UInt8} (h : Buf w g cap l) (hb : Below w.heap.size w w') : Buf w' g cap l := h.block (hb.block g h.lt) hb.size
theorem Buf.bat {w : World} {g cap : Nat} {l : List UInt8} (h : Buf w g cap l) : BAt w (some ⟨g, 0, none⟩) l := .inr ⟨g, 0, rfl, h.lt, fun i hi => by
  rw [S_size] at hi
  rw [Nat.zero_add, h.cells i (l[i]'hi) (List.getElem?_eq_getElem hi)]; rfl⟩
theorem cells_get {m : List UInt8} {j : Nat} {u : Value} (h : (Lib.byteCells m)[j]? = some u) : ∃ x, m[j]? = some x ∧ u = .int .u8 (x.toNat : Int) := by
  simp only [Lib.byteCells, List.getElem?_map, Option.map_eq_some_iff] at h
  obtain ⟨x, h1, h2⟩ := h
  exact ⟨x, h1, h2.symm⟩
/-- Appending bytes of any source. -/
theorem buf_append {w : World} {g cap : Nat} {l : List UInt8} (h : Buf w g cap l) (tx ty : TypeId) (x : Value) (m : List UInt8) (hs : Src Tryz.prog 1 tx x m.length (Lib.byteCells m) w) (hl : l.length + m.length ≤ 140737488355328) :
    ∃ g' cap' w', (Builtin.append_ #[26, tx] ty #[.slice (some ⟨g, 0, none⟩) l.length cap, x]).run Tryz.prog w = .ok (.slice (some ⟨g', 0, none⟩) (l ++ m).length cap') w' ∧ Buf w' g' cap' (l ++ m) ∧ Fr (fun k => k = g) w w' ∧ (g' = g ∨ w.heap.size ≤ g') := by
  obtain ⟨i0, hi, hz0, hz1, hz2⟩ := info_parts two_info
  have hml : (Lib.byteCells m).length = m.length := by simp [Lib.byteCells]
  rw [← hz1] at hs
  by_cases hroom : l.length + m.length ≤ cap
  · have hc : ∀ j, j < (Lib.byteCells m).length → (w.cell? ⟨g, 0 + l.length * i0.size + j, none⟩).isSome = true := fun j hj => by
      rw [hml] at hj
      rw [hz1, Nat.zero_add, Nat.mul_one]
      exact (h.room _ (by omega) (by omega)).1
    have hf : ∀ j, j < (Lib.byteCells m).length → w.frozen? ⟨g, 0 + l.length * i0.size + j, none⟩ = false := fun j hj => by
      rw [hml] at hj
      rw [hz1, Nat.zero_add, Nat.mul_one]
      exact (h.room _ (by omega) (by omega)).2
    have hr := run_append_room_src (P := Tryz.prog) w 26 tx ty 5 i0 Tryz.underlying26 hi g 0 l.length cap x m.length _ hs hroom hc hf
    have hfr := fr_sets g (Lib.byteCells m) (0 + l.length * i0.size) w
    have ho : 0 + l.length * i0.size = l.length := by rw [hz1]; omega
    refine ⟨g, cap, _, by rw [List.length_append]; exact hr, ?_, hfr, .inl rfl⟩
    rw [ho] at hc hfr ⊢
    refine ⟨Nat.lt_of_lt_of_le h.lt hfr.size, by rw [List.length_append]; exact hroom, fun i y hy => ?_, fun i h1 h2 => ?_⟩
    · by_cases hil : i < l.length
      · rw [List.getElem?_append_left hil] at hy
        rw [World.cell?_setCells_out g _ _ _ _ (fun _ _ => .inl hil)]
        exact h.cells i y hy
      · rw [List.getElem?_append_right (by omega)] at hy
        have hj : i - l.length < (Lib.byteCells m).length := by rw [hml]; exact (List.getElem?_eq_some_iff.1 hy).1
        have h3 := World.cell?_setCells_in g (Lib.byteCells m) l.length w hc (i - l.length) hj
        rw [show l.length + (i - l.length) = i by omega] at h3
        rw [h3]
        have h4 : (Lib.byteCells m)[i - l.length]? = some (.int .u8 (y.toNat : Int)) := by simp [Lib.byteCells, hy]
        rw [List.getElem?_eq_getElem hj] at h4
        exact h4
    · rw [List.length_append] at h1
      have h3 := h.room i (by omega) h2
      exact ⟨World.isSome_setCells g _ _ _ _ h3.1, by rw [World.frozen?_setCells]; exact h3.2⟩
  · have hold : (Builtin.firstCells i0.size l.length (.slice (some ⟨g, 0, none⟩) l.length cap)).run Tryz.prog w.drew = .ok (Lib.byteCells l).toArray w.drew :=
      run_firstCells_some w.drew i0.size l.length ⟨g, 0, none⟩ l.length cap _ (by rw [hz1]; simp [Lib.byteCells]) (fun j u hu => by
        obtain ⟨y, h1, rfl⟩ := cells_get hu
        rw [Addr.add_lit, Nat.zero_add]
        have := h.cells j y h1
        simpa using this)
    have hr := run_append_grow_src (P := Tryz.prog) w 26 tx ty 5 i0 _ Tryz.underlying26 hi hz0 (some ⟨g, 0, none⟩) l.length cap _ hold x m.length _ hs (by omega) (by omega) (growslice_fits (by omega) (by rw [hz2]; omega))
    have hge := grownCap_ge w (l.length + m.length) cap 5
    refine ⟨w.heap.size, grownCap w (l.length + m.length) cap 5, _, by rw [List.length_append]; exact hr, ?_, Fr.of ((Below.refl _ w).drew.alloc (Nat.le_refl _) _), .inr (Nat.le_refl _)⟩
    have hblk : ∀ cs : Array Value, (w.drew.alloc (.cells cs 5)).heap[w.heap.size]? = some (.cells cs 5) := fun cs => heap_alloc_new w.drew _
    refine ⟨by simp, by rw [List.length_append]; exact hge, fun i y hy => ?_, fun i h1 h2 => ?_⟩
    · rw [cell_of_row _ _ _ _ _ _ (hblk _)]
      have hi2 : i < (l ++ m).length := (List.getElem?_eq_some_iff.1 hy).1
      rw [List.length_append] at hi2
      have h4 : (Lib.byteCells l ++ Lib.byteCells m)[i]? = some (.int .u8 (y.toNat : Int)) := by rw [← cells_app]; unfold Lib.byteCells; rw [List.getElem?_map, hy]; rfl
      rw [Array.getElem?_append_left (by simp [Lib.byteCells]; omega)]
      simpa using h4
    · rw [List.length_append] at h1
      refine ⟨?_, (show Blk (w.drew.alloc _) w.heap.size 5 _ from hblk _).frozen i⟩
      rw [cell_of_row _ _ _ _ _ _ (hblk _)]
      have hsz : i < ((Lib.byteCells l ++ Lib.byteCells m).toArray ++ Builtin.zeroCells (Value.int .u8 0).cells (grownCap w (l.length + m.length) cap 5 - (l.length + m.length))).size := by
        rw [Array.size_append, size_zeroCells]
        simp [Lib.byteCells, Value.cells]
        omega
      rw [Array.getElem?_eq_getElem hsz]; rfl
theorem wpList_buf {w : World} {ops : Array Oper} {rest : List Oper} {o : Oper} {a : Act} {Q : Exit → Act → World → Prop} (hgd : o.guard = none) (s x : Operand) (tx : TypeId)
    (ho : o.op = .call { callee := .builtin .append, args := #[s, x], argTypes := #[26, tx] })
    (g cap n : Nat) (l : List UInt8) (hs : a.eval s = .slice (some ⟨g, 0, none⟩) n cap) (hn : n = l.length) (hb : Buf w g cap l) (v : Value) (hx : a.eval x = v) (m : List UInt8) (hsrc : Src Tryz.prog 1 tx v m.length (Lib.byteCells m) w)
    (hl : l.length + m.length ≤ 140737488355328)
    (h : ∀ g' cap' w', Buf w' g' cap' (l ++ m) → Fr (fun k => k = g) w w' → (g' = g ∨ w.heap.size ≤ g') → wpList Tryz.prog ops Q rest (a.put o.dst (.slice (some ⟨g', 0, none⟩) (l ++ m).length cap')) w') : wpList Tryz.prog ops Q (o :: rest) a w :=
  wpList_plain hgd fun K hK => by
    subst hn
    obtain ⟨g', cap', w', hr, h2, h3, h4⟩ := buf_append hb tx o.type v m hsrc hl
    unfold Oper.wp execOp
    simp only [ho, resolve, invoke, builtin, Sem.run_bind, Sem.run_pure, Result.andThen_ok, List.map_toArray, List.map_cons, List.map_nil, hs, hx, hr]
    exact hK _ _ (h g' cap' w' h2 h3 h4)
/-- A text turned into bytes. -/
theorem wpList_tobytes {w : World} {ops : Array Oper} {rest : List Oper} {o : Oper} {a : Act} {Q : Exit → Act → World → Prop} (hgd : o.guard = none) (x : Operand) (ho : o.op = .convert 9 26 x) (l : List UInt8) (s : ByteArray) (hs : s = S l) (hx : a.eval x = .string s)
    (h : ∀ cap w', Buf w' w.heap.size cap l → Below w.heap.size w w' → wpList Tryz.prog ops Q rest (a.put o.dst (.slice (some ⟨w.heap.size, 0, none⟩) l.length cap)) w') : wpList Tryz.prog ops Q (o :: rest) a w := by
  subst hs
  refine wpList_plain hgd fun K hK => ?_
  have hr := Lib.run_convert_string_bytes (P := Tryz.prog) w 9 26 5 (S l) Tryz.underlying9 Tryz.underlying26 Tryz.underlying5
  unfold Oper.wp execOp
  simp only [ho, hx, Sem.run_bind, hr, Result.andThen_ok, Sem.run_pure]
  have hge := grownCap_ge w (S l).size 0 5
  have hblk := Lib.bytesWorld_at_new w 5 (S l)
  have hsz : (Lib.bytesCells w 5 (S l)).size = grownCap w (S l).size 0 5 := by
    unfold Lib.bytesCells
    rw [Array.size_append, Array.size_map, Array.size_replicate]
    have : (S l).data.size = (S l).size := rfl
    omega
  rw [S_size] at hge hsz hr ⊢
  refine hK _ _ (h _ _ ⟨by rw [Lib.bytesWorld_size]; omega, hge, fun i y hy => ?_, fun i h1 h2 => ?_⟩ (bytesWorld_below w 5 (S l)))
  · have hi2 : i < l.length := (List.getElem?_eq_some_iff.1 hy).1
    rw [Lib.bytesWorld_cell w 5 (S l) i (by rw [S_size]; exact hi2), S_list, List.getD_eq_getElem?_getD, hy]; rfl
  · constructor
    · unfold World.cell?
      simp only [hblk]
      rw [Array.getElem?_eq_getElem (by rw [hsz]; exact h2)]; rfl
    · unfold World.frozen?
      simp only [hblk]
      rw [hsz]
      simp
      omega
end Go.Proofs.YtpciggnanlflkaaGreatDoor.Ad
namespace Go.Proofs.YtpciggnanlflkaaGreatDoor.Ad
set_option linter.unusedVariables false
set_option linter.unusedSimpArgs false
open Go.RowKit Go.Maps W
theorem src_str (m : List UInt8) (w : World) : Src Tryz.prog 1 9 (.string (S m)) m.length (Lib.byteCells m) w := by
  have h := Src.ofString (P := Tryz.prog) w Tryz.underlying9 (S m)
  rw [S_size] at h
  have e : Go.byteCells (S m) = Lib.byteCells m := by unfold Go.byteCells Lib.byteCells; rw [S_list]
  rw [e] at h
  exact h
theorem print_take {t : Tp} (h : rightV t = true) (k : Nat) : (headT t ++ linesT (t.recs.take k)).length ≤ 600000000 := by
  have h1 := right_all h
  have h2 := right_len h
  obtain ⟨h3, h4, _⟩ := right_split h
  have h5 := lines_le (t.recs.take k) fun r hr => h1 r (List.mem_of_mem_take hr)
  have h6 := textB_le t.snap.toNat (by omega)
  have h7 : (t.recs.take k).length ≤ t.recs.length := by rw [List.length_take]; omega
  unfold headT
  simp only [List.length_append, List.length_cons, List.length_nil]
  omega
theorem line_le2 {r : Rec} (h : 0 ≤ r.tk ∧ r.tk ≤ 1099511627776 ∧ 0 ≤ r.node ∧ r.node < 16 ∧ 0 ≤ r.long ∧ r.long ≤ 65575 ∧ r.data.length ≤ 65575) : (lineT r).length ≤ 140000 := by
  have h1 := front_le h
  unfold lineT
  rw [List.length_append, hexs_len]
  omega
theorem fr_buf {w w' z : World} {g B : Nat} (h : Below B z w) (hf : Fr (fun k => k = g) w w') (hg : B ≤ g) (hB : B ≤ w.heap.size) : Below B z w' := h.trans (hf.below (fun k hk e => by omega) hB)
set_option maxRecDepth 100000 in
set_option maxHeartbeats 4000000 in
theorem rprint_calls (t : Tp) (p : Option Go.Addr) (c : Nat) (w : World) (hp : RAt w p t.recs) : Calls Tryz.prog 14 #[.agg #[.int .i64 t.snap, .slice p t.recs.length c]] w fun e w' =>
    e = .returned (.tuple #[.string (S (printV t).1), .int .i64 (printV t).2]) ∧ Below w.heap.size w w' := by
  have HP := Lib.hid hp
  have HRI := Lib.hid (fun w' (h : Below w.heap.size w w') => rright_calls t p c w' (hp.later h))
  cases hm : rightV t
  · have HM : Hid (printV t = ([], 1)) := Lib.hid (by unfold printV; rw [hm]; rfl)
    rw [hm] at HRI
    clear hp hm
    go_enter Tryz.func14, Tryz.ntmps14
    go_upto_region 1 with fail
    refine wp_named fun W hW => ?_
    obtain ⟨bk, BW, sW⟩ := box1 hW
    have c0 : W.cell? ⟨w.heap.size, 0, none⟩ = some (.int .i64 t.snap) := bk.out.cell _
    have c1 : W.cell? ⟨w.heap.size, 1, none⟩ = some (.slice p t.recs.length c) := bk.out.cell _
    clear hW
    go_wp2_with (go_at_call 17; refine (HRI.out _ BW.out).mono ?_; rintro e W2 ⟨rfl, hB2⟩)
    go_ret2
    exact ⟨by rw [HM.out]; rfl, (keep BW hB2).out⟩
  · have HM : Hid (printV t = (printT t, 0)) := Lib.hid (by unfold printV; rw [hm]; rfl)
    rw [hm] at HRI
    have HRT := Lib.hid hm
    obtain ⟨s0, s1, _, _⟩ := right_split hm
    have HDE := Lib.hid (fun w => rdecimal_calls t.snap.toNat (by omega) w)
    rw [show ((t.snap.toNat : Nat) : Int) = t.snap by omega] at HDE
    have HTL := Lib.hid (textB_le t.snap.toNat (by omega))
    have HHD := Lib.hid (head_S (textB 10 t.snap.toNat))
    obtain ⟨n, hn⟩ : ∃ n, t.recs.length = n := ⟨_, rfl⟩
    have HN := Lib.hid hn
    have hb32 : n ≤ 4096 := by rw [← hn]; exact right_len hm
    have HHT : Hid ([116, 97, 112, 101, 32] ++ (textB 10 t.snap.toNat ++ [10]) = headT t) := Lib.hid rfl
    obtain ⟨ts, hts⟩ : ∃ q, textB 10 t.snap.toNat = q := ⟨_, rfl⟩
    rw [hts] at HDE HTL HHD HHT
    rw [HHT.out] at HHD
    have HTS : Hid ((S ts).size ≤ 13) := Lib.hid (by rw [S_size]; exact HTL.out)
    obtain ⟨ss, hss⟩ : ∃ q, S ts = q := ⟨_, rfl⟩
    rw [hss] at HDE HTS HHD
    obtain ⟨sn, hsn⟩ : ∃ n, t.snap = n := ⟨_, rfl⟩
    have z1 : ¬ 9223372036854775807 < 5 + ss.size := by have := HTS.out; omega
    have z2 : ¬ 9223372036854775807 < 5 + ss.size + 1 := by have := HTS.out; omega
    rw [hn, hsn] at HRI ⊢
    rw [hsn] at HDE
    clear hp hm hn hsn s0 s1 hts hss
    go_enter Tryz.func14, Tryz.ntmps14
    go_upto_region 1 with fail
    refine wp_named fun W hW => ?_
    obtain ⟨bk, BW, sW⟩ := box1 hW
    have c0 : W.cell? ⟨w.heap.size, 0, none⟩ = some (.int .i64 sn) := bk.out.cell _
    have c1 : W.cell? ⟨w.heap.size, 1, none⟩ = some (.slice p n c) := bk.out.cell _
    clear hW
    go_upto_region 4 with (go_at_call 17; refine (HRI.out _ BW.out).mono ?_; rintro e W2 ⟨rfl, hB2⟩)
    have BW2 := keep BW hB2
    have bk := Lib.hid (bk.out.later hB2 bk.out.lt)
    have HRA := Lib.hid (HP.out.later BW2.out)
    clear hB2 c0 c1 BW sW HRI
    have c0 : W2.cell? ⟨w.heap.size, 0, none⟩ = some (.int .i64 sn) := bk.out.cell _
    go_upto_region 5 with (first | (go_at_call 41; refine (HDE.out _).mono ?_; rintro e W3 ⟨rfl, hB3⟩) | (refine wpList_tobytes rfl _ rfl (headT t) _ HHD.out rfl ?_; intro cap W4 hbuf hB4))
    have HBU := Lib.hid hbuf
    have HGE : Hid (W2.heap.size ≤ W3.heap.size) := Lib.hid hB3.size
    have HB : Hid (Below W2.heap.size W2 W4) := Lib.hid (hB3.trans (hB4.mono hB3.size))
    obtain ⟨g0, hg0⟩ : ∃ g, W3.heap.size = g := ⟨_, rfl⟩
    rw [hg0] at HBU HGE ⊢
    clear hbuf hB3 hB4 hg0 c0
    go_upto_region 6 with fail
    go_loopw [5, 6] (fun u5 u6 wr => ∃ (k g cap m : Nat) (l : List UInt8), u6 = .int .i64 k ∧ k ≤ n ∧ u5 = .slice (some ⟨g, 0, none⟩) m cap ∧ W2.heap.size ≤ g ∧ Hid (m = l.length) ∧ Hid (l = headT t ++ linesT (t.recs.take k)) ∧ Hid (Buf wr g cap l) ∧ Hid (Below W2.heap.size W2 wr)) (fun _ u6 _ => n - (intOf u6).toNat)
    case atStart => exact ⟨0, g0, cap, _, headT t, rfl, Nat.zero_le _, rfl, HGE.out, Lib.hid rfl, Lib.hid (by simp [linesT]), HBU, HB⟩
    case round =>
      clear HB HBU HGE
      obtain ⟨k, g, cap, m, l, rfl, hk, rfl, hge, HML, HL, HBU, HB⟩ := hrel
      have HGE := Lib.hid hge
      have HLL := Lib.hid (print_take HRT.out k)
      rw [← HL.out] at HLL
      have c1 : wr.cell? ⟨w.heap.size, 1, none⟩ = some (.slice p n c) := (bk.out.later HB.out bk.out.lt).cell _
      clear hge
      by_cases hlt : k < n
      · have x1 : decide ((k : Int) < (n : Int)) = true := decide_eq_true (by omega)
        have x1' : decide (k < n) = true := decide_eq_true hlt
        obtain ⟨r, hr⟩ : ∃ r, t.recs[k]? = some r := ⟨_, List.getElem?_eq_getElem (by have := HN.out; omega)⟩
        have HNX := Lib.hid (lines_take hr)
        have hrr := right_all HRT.out r (List.mem_of_getElem? hr)
        have HL2 := Lib.hid (line_le2 hrr)
        obtain ⟨q, o, rfl, hgl, pd, cd, hr5, hbd, hsl⟩ := own_cellsB (HRA.out.later HB.out) hr
        have HLN := Lib.hid (rline_calls r hrr pd cd wr hbd)
        unfold recC at HLN
        have d0 : wr.cell? ⟨q, o + k * 5, none⟩ = some (.int .i64 r.tk) := hr5 0 _ rfl
        have d1 : wr.cell? ⟨q, o + k * 5 + 1, none⟩ = some (.int .i64 r.node) := hr5 1 _ rfl
        have d2 : wr.cell? ⟨q, o + k * 5 + 2, none⟩ = some (.bool r.out) := hr5 2 _ rfl
        have d3 : wr.cell? ⟨q, o + k * 5 + 3, none⟩ = some (.int .i64 r.long) := hr5 3 _ rfl
        have d4 : wr.cell? ⟨q, o + k * 5 + 4, none⟩ = some (.slice pd r.data.length cd) := hr5 4 _ rfl
        obtain ⟨lt, hltx⟩ : ∃ q, lineT r = q := ⟨_, rfl⟩
        rw [hltx] at HLN HL2 HNX
        obtain ⟨dn, hdn⟩ : ∃ q, r.data.length = q := ⟨_, rfl⟩
        rw [hdn] at d4 HLN
        obtain ⟨tk, nd, ou, lg, dt⟩ := r
        simp only at d0 d1 d2 d3 HLN
        clear hr hrr hgl hr5 hbd hsl hltx hdn
        go_upto_region 9 with (first | (go_at_call 42; refine HLN.out.mono ?_; rintro e V ⟨rfl, hV⟩) | (at_builtin; refine wpList_buf rfl _ _ 9 rfl g cap _ l rfl HML.out (HBU.out.later hV) _ rfl lt (src_str lt V) (by have := HLL.out; have := HL2.out; omega) ?_; intro g1 cap1 V1 hb1 hf1 hg1))
        have HB1 : Hid (Below W2.heap.size W2 V1) := Lib.hid (fr_buf (HB.out.trans (hV.mono HB.out.size)) hf1 HGE.out (Nat.le_trans HB.out.size hV.size))
        have HG1 : Hid (W2.heap.size ≤ g1) := Lib.hid (by have := HGE.out; have := HB.out.size; have := hV.size; omega)
        have HBU1 := Lib.hid hb1
        have HLN1 : Hid ((l ++ lt).length ≤ 600140000) := Lib.hid (by have := HLL.out; have := HL2.out; rw [List.length_append]; omega)
        have HE : Hid ((l ++ lt) ++ [10] = headT t ++ linesT (t.recs.take (k + 1))) := Lib.hid (by rw [HNX.out, HL.out]; simp only [List.append_assoc])
        obtain ⟨m1, hm1⟩ : ∃ q, (l ++ lt).length = q := ⟨_, rfl⟩
        have HM1 := Lib.hid hm1.symm
        first | rw [hm1] | rw [show l.length + lt.length = m1 by rw [← hm1, List.length_append]]
        obtain ⟨l1, hl1⟩ : ∃ q, l ++ lt = q := ⟨_, rfl⟩
        rw [hl1] at HBU1 HLN1 HE HM1
        clear hV hb1 hf1 hg1 HLN HBU HB HGE HLL HL2 HNX hl1 hm1 HML d0 d1 d2 d3 d4 c1
        have HNW : Hid (Src Tryz.prog 1 26 (.slice (some ⟨V1.heap.size, 0, none⟩) 1 1) ([10] : List UInt8).length (Lib.byteCells [10]) (V1.alloc (.cells #[.int .u8 10] 5))) := Lib.hid (Src.ofSlice _ Tryz.underlying26 ⟨V1.heap.size, 0, none⟩ 1 1 (Lib.byteCells [10]) rfl (news_of V1 5 (Lib.byteCells [10])) (fun u hu => by simp only [Lib.byteCells, List.mem_map] at hu; obtain ⟨x, _, rfl⟩ := hu; rfl))
        have HBA : Hid (Below V1.heap.size V1 (V1.alloc (.cells #[.int .u8 10] 5))) := Lib.hid ((Below.refl _ _).alloc (Nat.le_refl _) _)
        go_wp2_with (at_builtin; refine wpList_buf rfl _ _ 26 rfl g1 cap1 _ l1 rfl HM1.out (HBU1.out.later HBA.out) _ rfl [10] HNW.out (by have := HLN1.out; simp; omega) ?_; intro g2 cap2 V2 hb2 hf2 hg2)
        have HB2 : Hid (Below W2.heap.size W2 V2) := Lib.hid (fr_buf (HB1.out.trans (HBA.out.mono HB1.out.size)) hf2 HG1.out (Nat.le_trans HB1.out.size HBA.out.size))
        have HG2 : Hid (W2.heap.size ≤ g2) := Lib.hid (by have := HG1.out; have := HB1.out.size; simp at hg2; omega)
        exact ⟨⟨k + 1, g2, cap2, _, l1 ++ [10], by go_num, by omega, rfl, HG2.out, Lib.hid (by have := HM1.out; simp), HE, Lib.hid hb2, HB2⟩, by simp [intOf]; omega⟩
      · have x1 : decide ((k : Int) < (n : Int)) = false := decide_eq_false (by omega)
        have x1' : decide (k < n) = false := decide_eq_false hlt
        have HF : Hid (l = printT t) := Lib.hid (by rw [HL.out, List.take_of_length_le (by have := HN.out; omega)]; rfl)
        have hcv : (convert 26 9 (.slice (some ⟨g, 0, none⟩) m cap)).run Tryz.prog wr = .ok (.string (S l)) wr := conv_at HBU.out.bat ⟨by rw [HML.out]; exact HBU.out.le, fun h => by cases h⟩ HML.out
        clear hlt
        go_wp2
        go_ret2
        exact ⟨by rw [HM.out, ← HF.out]; rfl, BW2.out.trans (HB.out.mono BW2.out.size)⟩
end Go.Proofs.YtpciggnanlflkaaGreatDoor.Ad
