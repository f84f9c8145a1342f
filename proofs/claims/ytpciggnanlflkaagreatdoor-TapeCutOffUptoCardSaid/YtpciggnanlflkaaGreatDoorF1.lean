/- Contracts of filter's functions at the term that holds of all. Conditions: none beyond those that the theorems state. Contract of filter.may at the term that holds of all. Contract of filter.may at the term that holds of all. Conditions: none. Contracts of filter.Valid at the one term that holds of all, and of ip4.Parse and ip6.Parse at short bytes. Conditions: none beyond those that each theorem states. Contracts of ip4.Parse, ip6.Parse, filter.look at short bytes, and of filter's holds, match, Match at the one term that holds of all. Conditions: none beyond those that each theorem states. Contracts of filter.Match, Pick's closure and tape.Pick at the one term that holds of all. Conditions: that look answers of the bytes. -/
import Derived.Test.YtpciggnanlflkaaGreatDoorXh
import Derived.DeepKeys
namespace Go.Proofs.YtpciggnanlflkaaGreatDoor.Ad
set_option linter.unusedVariables false
set_option linter.unusedSimpArgs false
open Go.RowKit Go.Maps W
set_option maxRecDepth 100000 in
set_option maxHeartbeats 4000000 in
theorem parts_one (w : World) : Calls Tryz.prog 74 #[.int .i64 1] w fun e w' => e = .returned (.int .i64 0) ∧ w' = w := by
  go_enter Tryz.func74, Tryz.ntmps74
  go_wp2
  go_ret
  exact ⟨rfl, rfl⟩
set_option maxRecDepth 100000 in
set_option maxHeartbeats 4000000 in
theorem most_one (w : World) : Calls Tryz.prog 87 #[.int .i64 1] w fun e w' => e = .returned (.int .i64 (-1)) ∧ w' = w := by
  go_enter Tryz.func87, Tryz.ntmps87
  go_wp2
  go_ret
  exact ⟨rfl, rfl⟩
end Go.Proofs.YtpciggnanlflkaaGreatDoor.Ad
namespace Go.Proofs.YtpciggnanlflkaaGreatDoor.Ad
set_option linter.unusedVariables false
set_option linter.unusedSimpArgs false
open Go.RowKit Go.Maps W
/-- The cells of the term that holds of all. -/
def anyC : Array Value := #[.int .i64 1, .int .i64 0, .int .i64 0, .int .u8 0, .int .u8 0, .int .u8 0, .int .u8 0, .int .u8 0, .int .u8 0, .int .u8 0, .int .u8 0, .int .u8 0, .int .u8 0, .int .u8 0, .int .u8 0, .int .u8 0, .int .u8 0, .int .u8 0, .int .u8 0, .int .i64 0]
theorem deepE (n d : Nat) (h : n = d) (t : TypeId) (x y : Value) : Op.equalIn n t x y = Op.equalIn d t x y := by rw [h]
theorem any_eql (z : World) : (binOp .eql 56 (.agg anyC) (.agg anyC)).run Tryz.prog z = .ok (.bool true) z := by
  obtain ⟨lx, hx⟩ : ∃ lx, Tryz.prog.keyLits 10 56 anyC.toList = some lx := by
    have h : (Tryz.prog.keyLits 10 56 anyC.toList).isSome = true := by kernel_rfl
    exact Option.isSome_iff_exists.1 h
  obtain ⟨r, hr, hiff⟩ := run_equalIn_deep (P := Tryz.prog) 9990 10 56 (by kernel_rfl) z 10 10 (.agg anyC) (.agg anyC) lx lx (by kernel_rfl) (by kernel_rfl) hx hx
  rw [deepE _ 10000 (by omega)] at hr
  rw [run_eql_struct, hr, hiff.2 rfl]; rfl
end Go.Proofs.YtpciggnanlflkaaGreatDoor.Ad
namespace Go.Proofs.YtpciggnanlflkaaGreatDoor.Ad
set_option linter.unusedVariables false
set_option linter.unusedSimpArgs false
open Go.RowKit Go.Maps W
/-- A comparison of structs whose answer is known. -/
theorem wpList_bin {P : Program} {w : World} {ops : Array Oper} {rest : List Oper} {o : Oper} {a : Act} {Q : Exit → Act → World → Prop} (hgd : o.guard = none) (op : BinOp) (t t2 : TypeId) (x y : Operand) (ho : o.op = .binOp op t x y t2)
    (us vs : Array Value) (r : Value) (hx : a.eval x = .agg us) (hy : a.eval y = .agg vs) (hm : P.eqGuardType P.depth t = false) (hr : ∀ w, (binOp op t (.agg us) (.agg vs)).run P w = .ok r w) (h : wpList P ops Q rest (a.put o.dst r) w) : wpList P ops Q (o :: rest) a w :=
  wpList_plain hgd fun K hK => by
    unfold Oper.wp execOp
    simp only [ho, hx, hy, Sem.run_bind, run_eqGuard_agg w op t x y us vs hm, Sem.run_pure, Result.andThen_ok, hr]
    exact hK _ _ h
theorem any_built : Tryz.prog.built 56 [(0, .int .i64 1)] = some anyC := by kernel_rfl
theorem any_guard : Tryz.prog.eqGuardType Tryz.prog.depth 56 = false := by kernel_rfl
theorem any_size : (Tryz.prog.info? 56).map (·.size) = some anyC.size := by kernel_rfl
theorem any_one : anyC.all (·.oneCell') = true := by kernel_rfl
set_option maxRecDepth 100000 in
set_option maxHeartbeats 4000000 in
theorem fmay_any (w : World) : Calls Tryz.prog 73 #[.agg anyC] w fun e w' => e = .returned (.bool true) ∧ Below w.heap.size w w' := by
  have heq := any_eql
  have hbl := any_built
  have hsz := any_size
  obtain ⟨cs, hcs⟩ : ∃ cs, anyC = cs := ⟨_, rfl⟩
  have k0 : cs[0]? = some (.int .i64 1) := by rw [← hcs]; rfl
  rw [hcs] at heq hbl hsz ⊢
  have HBL := Lib.hid hbl
  have HEQ := Lib.hid heq
  have HSZ := Lib.hid hsz
  have K0 := Lib.hid k0
  clear hcs hbl hsz k0 heq
  obtain ⟨b0, hb0⟩ : ∃ b, w.heap.size = b := ⟨_, rfl⟩
  have HB0 := Lib.hid hb0
  clear hb0
  go_enter Tryz.func73, Tryz.ntmps73
  go_upto_region 1 with fail
  refine wp_named fun W hW => ?_
  obtain ⟨bk, BW, sW⟩ := box1 (cs := cs) hW
  rw [HB0.out] at bk sW ⊢
  clear hW
  have c0 : W.cell? ⟨b0, 0, none⟩ = some (.int .i64 1) := (bk.out.cell _).trans K0.out
  go_upto_region 9 with (go_at_call 87; refine (most_one _).mono ?_; rintro e V ⟨rfl, hV⟩; subst hV)
  go_wp2_with (first | (refine wpList_load_blk rfl 56 _ rfl b0 56 cs _ rfl bk.out Tryz.underlying56 rfl HSZ.out ?_) | (refine wpList_build1 rfl 56 0 _ rfl _ rfl cs HBL.out ?_) | (refine wpList_bin rfl .eql 56 _ _ _ rfl cs cs _ rfl rfl any_guard HEQ.out ?_))
  go_ret
  exact ⟨rfl, BW.out⟩
end Go.Proofs.YtpciggnanlflkaaGreatDoor.Ad
namespace Go.Proofs.YtpciggnanlflkaaGreatDoor.Ad
set_option linter.unusedVariables false
set_option linter.unusedSimpArgs false
open Go.RowKit Go.Maps W
/-- The one term that holds of all, in memory. -/
def AnyAt (w : World) (p : Option Go.Addr) : Prop := ∃ g, p = some ⟨g, 0, none⟩ ∧ Blk w g 56 anyC
theorem AnyAt.later {w w' : World} {p : Option Go.Addr} (h : AnyAt w p) (hb : Below w.heap.size w w') : AnyAt w' p := by
  obtain ⟨g, h1, h2⟩ := h
  exact ⟨g, h1, h2.later hb h2.lt⟩
def zeroT : Array Value := #[.int .i64 0, .int .i64 0, .int .i64 0, .int .u8 0, .int .u8 0, .int .u8 0, .int .u8 0, .int .u8 0, .int .u8 0, .int .u8 0, .int .u8 0, .int .u8 0, .int .u8 0, .int .u8 0, .int .u8 0, .int .u8 0, .int .u8 0, .int .u8 0, .int .u8 0, .int .i64 0]
/-- A new block, written over whole. -/
theorem put_new {w w' : World} {t : TypeId} {cs cs' : Array Value} (h : Put (w.alloc (.cells cs t)) w' w.heap.size t cs') : Hid (Blk w' w.heap.size t cs') ∧ Hid (Below w.heap.size w w') ∧ Hid (w.heap.size < w'.heap.size) :=
  ⟨Lib.hid h.blk, Lib.hid (h.below ((Below.refl _ _).alloc (Nat.le_refl _) _) (Nat.le_refl _) (by simp)), Lib.hid (by have := h.size; simp at this; omega)⟩
theorem parts_any (w : World) : Calls Tryz.prog 74 #[.int .i64 1] w fun e w' => e = .returned (.int .i64 0) ∧ w' = w := parts_one w
theorem blk_range {w : World} {g : Nat} {t : TypeId} {cs : Array Value} (h : Blk w g t cs) : w.rangeAt g 0 cs.toList := fun j v hv => by
  rw [Nat.zero_add, h.cell]; simpa using hv
set_option maxRecDepth 100000 in
set_option maxHeartbeats 4000000 in
theorem valid_any (p : Option Go.Addr) (c : Nat) (w : World) (h : AnyAt w p) : Calls Tryz.prog 62 #[.slice p 1 c] w fun e w' => e = .returned (.bool true) ∧ Below w.heap.size w w' := by
  obtain ⟨g, rfl, hb⟩ := h
  have hmy := fmay_any
  have hsz := any_size
  have ho := any_one
  have hzz : Tryz.prog.built 56 [] = some ((Tryz.prog.built 56 []).getD #[]) := by kernel_rfl
  obtain ⟨cs, hcs⟩ : ∃ cs, anyC = cs := ⟨_, rfl⟩
  have k0 : cs[0]? = some (.int .i64 1) := by rw [← hcs]; rfl
  have kz : cs.size = 20 := by rw [← hcs]; rfl
  rw [hcs] at hmy hsz ho hb
  have HMY := Lib.hid hmy
  have HSZ := Lib.hid hsz
  have HO := Lib.hid ho
  have K0 := Lib.hid k0
  have KZ := Lib.hid kz
  have HB := Lib.hid hb
  have hsz2 : (Tryz.prog.info? 56).map (·.size) = some cs.toList.length := by rw [hsz]; simp
  have HSZ2 := Lib.hid hsz2
  clear hcs hmy hsz ho k0 kz hb hsz2 hzz
  obtain ⟨b0, hb0⟩ : ∃ b, w.heap.size = b := ⟨_, rfl⟩
  have HB0 := Lib.hid hb0
  clear hb0
  go_enter Tryz.func62, Tryz.ntmps62
  go_wp2
  go_loopw [3, 5, 11] (fun u3 _ u11 wr => ∃ k : Nat, k ≤ 1 ∧ u11 = .int .i64 k ∧ u3 = .int .i64 (1 - (k : Int)) ∧ Hid (Below w.heap.size w wr)) (fun _ _ u11 _ => 1 - (intOf u11).toNat)
  case atStart => exact ⟨0, by omega, rfl, rfl, Lib.hid (Below.refl _ _)⟩
  case round =>
    obtain ⟨k, hk, rfl, rfl, HW⟩ := hrel
    by_cases h0 : k = 0
    · subst h0
      have bg := Lib.hid (HB.out.later HW.out HB.out.lt)
      go_upto_region 7 with (first | (refine wpList_load_blk rfl 56 _ rfl g 56 cs _ rfl bg.out Tryz.underlying56 rfl HSZ.out ?_) | (refine wpList_store_blk rfl 56 _ _ rfl wr.heap.size 56 zeroT cs rfl rfl (Blk.new _ _ _) KZ.out HSZ.out HO.out ?_; intro V hV))
      obtain ⟨b1, B1, s1⟩ := put_new hV
      have HW1 := Lib.hid (HW.out.trans (B1.out.mono HW.out.size))
      obtain ⟨G, hG⟩ : ∃ g, wr.heap.size = g := ⟨_, rfl⟩
      rw [hG] at b1 s1 ⊢
      clear hV B1 hG
      go_upto_region 9 with (first | (refine wpList_load_blk rfl 56 _ rfl G 56 cs _ rfl b1.out Tryz.underlying56 rfl HSZ.out ?_) | (go_at_call 73; refine (HMY.out _).mono ?_; rintro e V1 ⟨rfl, hB1⟩))
      have b2 := Lib.hid (b1.out.later hB1 b1.out.lt)
      have HW2 := Lib.hid (HW1.out.trans (hB1.mono HW1.out.size))
      have c0 : V1.cell? ⟨G, 0, none⟩ = some (.int .i64 1) := (b2.out.cell _).trans K0.out
      clear hB1
      go_wp2_with (go_at_call 74; refine (parts_one _).mono ?_; rintro e V2 ⟨rfl, hV2⟩; subst hV2)
      exact ⟨⟨1, by omega, by go_num, by go_num, HW2⟩, by simp [intOf]⟩
    · obtain rfl : k = 1 := by omega
      clear h0 hk
      go_wp2
      go_ret
      exact ⟨rfl, HW.out⟩
end Go.Proofs.YtpciggnanlflkaaGreatDoor.Ad
namespace Go.Proofs.YtpciggnanlflkaaGreatDoor.Ad
set_option linter.unusedVariables false
set_option linter.unusedSimpArgs false
open Go.RowKit Go.Maps W
/-- The empty packet, what is read of none. -/
def zeroPk : Array Value := #[.int .i64 0, .int .i64 0, .int .i64 0, .int .i64 0, .int .u8 0, .int .u8 0, .int .u8 0, .int .u8 0, .int .u8 0, .int .u8 0, .int .u8 0, .int .u8 0, .int .u8 0, .int .u8 0, .int .u8 0, .int .u8 0, .int .u8 0, .int .u8 0, .int .u8 0, .int .u8 0, .int .i64 0, .int .u8 0, .int .u8 0, .int .u8 0, .int .u8 0, .int .u8 0, .int .u8 0, .int .u8 0, .int .u8 0, .int .u8 0, .int .u8 0, .int .u8 0, .int .u8 0, .int .u8 0, .int .u8 0, .int .u8 0, .int .u8 0, .int .i64 0, .int .i64 0, .int .u32 0, .bool false, .bool false, .bool false, .int .i64 0, .slice none 0 0, .slice none 0 0]
def zeroFc : Array Value := #[.bool false, .int .i64 0, .int .i64 0, .int .i64 0, .int .i64 0, .int .u8 0, .int .u8 0, .int .u8 0, .int .u8 0, .int .u8 0, .int .u8 0, .int .u8 0, .int .u8 0, .int .u8 0, .int .u8 0, .int .u8 0, .int .u8 0, .int .u8 0, .int .u8 0, .int .u8 0, .int .u8 0, .int .i64 0, .int .u8 0, .int .u8 0, .int .u8 0, .int .u8 0, .int .u8 0, .int .u8 0, .int .u8 0, .int .u8 0, .int .u8 0, .int .u8 0, .int .u8 0, .int .u8 0, .int .u8 0, .int .u8 0, .int .u8 0, .int .u8 0, .int .i64 0, .int .i64 0, .int .u32 0, .bool false, .bool false, .bool false, .int .i64 0, .slice none 0 0, .slice none 0 0, .int .i64 0, .bool false, .int .i64 0, .int .i64 0]
theorem pk_built : Tryz.prog.built 119 [] = some zeroPk := by kernel_rfl
theorem pk_size : (Tryz.prog.info? 119).map (·.size) = some zeroPk.size := by kernel_rfl
theorem pk_one : zeroPk.all (·.oneCell') = true := by kernel_rfl
theorem fc_built : Tryz.prog.built 121 [] = some zeroFc := by kernel_rfl
theorem fc_size : (Tryz.prog.info? 121).map (·.size) = some zeroFc.size := by kernel_rfl
theorem fc_one : zeroFc.all (·.oneCell') = true := by kernel_rfl
set_option maxRecDepth 100000 in
set_option maxHeartbeats 4000000 in
theorem ip4_short (p : Option Go.Addr) (n c : Nat) (hn : n < 20) (w : World) : Calls Tryz.prog 89 #[.slice p n c] w fun e w' => e = .returned (.tuple #[.agg zeroPk, .int .i64 20]) ∧ Below w.heap.size w w' := by
  have x1 : decide ((n : Int) < 20) = true := decide_eq_true (by omega)
  have x1' : decide (n < 20) = true := decide_eq_true hn
  clear hn
  go_enter Tryz.func89, Tryz.ntmps89
  go_upto_region 1 with fail
  refine wp_named fun W hW => ?_
  obtain ⟨bk, BW, sW⟩ := box1 (cs := zeroPk) hW
  clear hW
  go_wp2_with (first | (refine wpList_build_as rfl 119 #[] rfl [] rfl zeroPk pk_built ?_) | (refine wpList_store_blk rfl 119 _ _ rfl w.heap.size 119 zeroPk zeroPk rfl rfl bk.out rfl pk_size pk_one ?_; intro V hV))
  exact bodyPost_ret (v := .tuple #[.agg zeroPk, .int .i64 20]) (by exact results_cell2 (fn := Tryz.f89) rfl _ _ w.heap.size 119 _ _ rfl hV.blk Tryz.underlying119 rfl pk_size) rfl ⟨rfl, hV.below BW.out (Nat.le_refl _) (by rw [sW.out]; omega)⟩
set_option maxRecDepth 100000 in
set_option maxHeartbeats 4000000 in
theorem ip6_short (p : Option Go.Addr) (n c : Nat) (hn : n < 40) (w : World) : Calls Tryz.prog 90 #[.slice p n c] w fun e w' => e = .returned (.tuple #[.agg zeroPk, .int .i64 20]) ∧ Below w.heap.size w w' := by
  have x1 : decide ((n : Int) < 40) = true := decide_eq_true (by omega)
  have x1' : decide (n < 40) = true := decide_eq_true hn
  clear hn
  go_enter Tryz.func90, Tryz.ntmps90
  go_upto_region 1 with fail
  refine wp_named fun W hW => ?_
  obtain ⟨bk, BW, sW⟩ := box1 (cs := zeroPk) hW
  clear hW
  go_wp2_with (first | (refine wpList_build_as rfl 119 #[] rfl [] rfl zeroPk pk_built ?_) | (refine wpList_store_blk rfl 119 _ _ rfl w.heap.size 119 zeroPk zeroPk rfl rfl bk.out rfl pk_size pk_one ?_; intro V hV))
  exact bodyPost_ret (v := .tuple #[.agg zeroPk, .int .i64 20]) (by exact results_cell2 (fn := Tryz.f90) rfl _ _ w.heap.size 119 _ _ rfl hV.blk Tryz.underlying119 rfl pk_size) rfl ⟨rfl, hV.below BW.out (Nat.le_refl _) (by rw [sW.out]; omega)⟩
set_option maxRecDepth 100000 in
set_option maxHeartbeats 4000000 in
theorem look_short (p : Option Go.Addr) (n c : Nat) (hn : n < 20) (w : World) : Calls Tryz.prog 75 #[.slice p n c] w fun e w' => e = .returned (.agg zeroFc) ∧ Below w.heap.size w w' := by
  have H4 := Lib.hid (ip4_short p n c hn)
  have H6 := Lib.hid (ip6_short p n c (by omega))
  clear hn
  obtain ⟨b0, hb0⟩ : ∃ b, w.heap.size = b := ⟨_, rfl⟩
  have HB0 := Lib.hid hb0
  clear hb0
  go_enter Tryz.func75, Tryz.ntmps75
  go_upto_region 1 with fail
  refine wp_named fun W hW => ?_
  obtain ⟨bk, BW, sW⟩ := box1 (cs := zeroFc) hW
  rw [HB0.out] at bk sW ⊢
  clear hW
  go_upto_region 2 with (first | (go_at_call 89; refine (H4.out _).mono ?_; rintro e V ⟨rfl, hV⟩) | (refine wpList_store_blk rfl 119 _ _ rfl V.heap.size 119 zeroPk zeroPk rfl rfl (Blk.new _ _ _) rfl pk_size pk_one ?_; intro V1 hV1))
  obtain ⟨b1, B1, s1⟩ := put_new hV1
  obtain ⟨G, hG⟩ : ∃ g, V.heap.size = g := ⟨_, rfl⟩
  have HGE : Hid (b0 < G) := Lib.hid (by have := hV.size; have := sW.out; omega)
  have HW1 : Hid (Below w.heap.size w V1) := Lib.hid (((BW.out.trans (hV.mono BW.out.size)).trans (B1.out.mono (by have := BW.out.size; have := hV.size; omega))))
  have bk1 := Lib.hid ((bk.out.later hV bk.out.lt).later B1.out (Nat.lt_of_lt_of_le bk.out.lt hV.size))
  rw [hG] at b1 s1 ⊢
  clear hV1 B1 hV hG
  go_upto_region 4 with (first | (go_at_call 90; refine (H6.out _).mono ?_; rintro e V2 ⟨rfl, hV2⟩; have b2 := Lib.hid (b1.out.later hV2 b1.out.lt); have bk2 := Lib.hid (bk1.out.later hV2 bk1.out.lt); have HW2 := Lib.hid (HW1.out.trans (hV2.mono HW1.out.size)); clear hV2) | (refine wpList_store_blk rfl 119 _ _ rfl G 119 zeroPk zeroPk rfl rfl b2.out rfl pk_size pk_one ?_; intro V3 hV3; have bk3 := Lib.hid (hV3.far bk2.out (by have := HGE.out; omega)); have HW3 := Lib.hid (hV3.below HW2.out (by have := HGE.out; have := HB0.out; omega) HW2.out.size); clear hV3))
  go_wp2_with (first | (refine wpList_build_as rfl 121 #[] rfl [] rfl zeroFc fc_built ?_) | (refine wpList_store_blk rfl 121 _ _ rfl b0 121 zeroFc zeroFc rfl rfl bk3.out rfl fc_size fc_one ?_; intro V4 hV4))
  refine bodyPost_ret (v := .agg zeroFc) (by exact results_cell_row (fn := Tryz.f75) rfl _ _ b0 121 _ (0, 0) _ rfl hV4.blk Tryz.underlying121 rfl fc_size) rfl ⟨rfl, hV4.below HW3.out (by have := HB0.out; omega) HW3.out.size⟩
set_option maxRecDepth 100000 in
set_option maxHeartbeats 4000000 in
theorem holds_any (fc : Array Value) (w : World) : Calls Tryz.prog 91 #[.agg fc, .agg anyC] w fun e w' => e = .returned (.bool true) ∧ Below w.heap.size w w' := by
  obtain ⟨cs, hcs⟩ : ∃ cs, anyC = cs := ⟨_, rfl⟩
  have k0 : cs[0]? = some (.int .i64 1) := by rw [← hcs]; rfl
  have K0 := Lib.hid k0
  rw [hcs]
  clear hcs k0
  go_enter Tryz.func91, Tryz.ntmps91
  go_upto_region 1 with fail
  refine wp_named fun W hW => ?_
  obtain ⟨ba, bb, BW, sW⟩ := box2 hW
  have c0 : W.cell? ⟨w.heap.size + 1, 0, none⟩ = some (.int .i64 1) := (bb.out.cell _).trans K0.out
  clear hW
  go_wp2
  go_ret
  exact ⟨rfl, BW.out⟩
set_option maxRecDepth 100000 in
set_option maxHeartbeats 4000000 in
theorem match_any (fc : Array Value) (fsz : (Tryz.prog.info? 121).map (·.size) = some fc.size) (p : Option Go.Addr) (c : Nat) (w : World) (h : AnyAt w p) : Calls Tryz.prog 76 #[.agg fc, .slice p 1 c, .int .i64 0] w fun e w' => e = .returned (.tuple #[.bool true, .int .i64 1]) ∧ Below w.heap.size w w' := by
  obtain ⟨g, rfl, hb⟩ := h
  have hho := holds_any fc
  have hsz := any_size
  have ho := any_one
  obtain ⟨cs, hcs⟩ : ∃ cs, anyC = cs := ⟨_, rfl⟩
  have k0 : cs[0]? = some (.int .i64 1) := by rw [← hcs]; rfl
  have kz : cs.size = 20 := by rw [← hcs]; rfl
  rw [hcs] at hsz ho hb hho
  have HHO := Lib.hid hho
  have HSZ := Lib.hid hsz
  have HFZ := Lib.hid fsz
  have HO := Lib.hid ho
  have K0 := Lib.hid k0
  have KZ := Lib.hid kz
  have HB := Lib.hid hb
  clear hcs hho hsz ho k0 kz hb fsz
  go_enter Tryz.func76, Tryz.ntmps76
  go_upto_region 1 with fail
  refine wp_named fun W hW => ?_
  obtain ⟨bk, BW, sW⟩ := box1 hW
  have bg := Lib.hid (HB.out.later BW.out HB.out.lt)
  clear hW
  go_upto_region 2 with (first | (refine wpList_load_blk rfl 56 _ rfl g 56 cs _ rfl bg.out Tryz.underlying56 rfl HSZ.out ?_) | (refine wpList_store_blk rfl 56 _ _ rfl W.heap.size 56 zeroT cs rfl rfl (Blk.new _ _ _) KZ.out HSZ.out HO.out ?_; intro V hV))
  obtain ⟨b1, B1, s1⟩ := put_new hV
  have bk1 := Lib.hid (bk.out.later B1.out bk.out.lt)
  have HW1 := Lib.hid (BW.out.trans (B1.out.mono BW.out.size))
  obtain ⟨G, hG⟩ : ∃ g, W.heap.size = g := ⟨_, rfl⟩
  rw [hG] at b1 s1 ⊢
  have c0 : V.cell? ⟨G, 0, none⟩ = some (.int .i64 1) := (b1.out.cell _).trans K0.out
  clear hV B1 hG
  go_wp2_with (first | (refine wpList_load_blk rfl 56 _ rfl G 56 cs _ rfl b1.out Tryz.underlying56 rfl HSZ.out ?_) | (refine wpList_load_blk rfl 121 _ rfl w.heap.size 121 fc _ rfl bk1.out Tryz.underlying121 rfl HFZ.out ?_) | (go_at_call 91; refine (HHO.out _).mono ?_; rintro e V1 ⟨rfl, hB1⟩))
  go_ret2
  exact ⟨rfl, (keep HW1 hB1).out⟩
end Go.Proofs.YtpciggnanlflkaaGreatDoor.Ad
namespace Go.Proofs.YtpciggnanlflkaaGreatDoor.Ad
set_option linter.unusedVariables false
set_option linter.unusedSimpArgs false
open Go.RowKit Go.Maps W
/-- look answers something of bytes. -/
def LookOk (p : Option Go.Addr) (n c : Nat) (w : World) : Prop := Calls Tryz.prog 75 #[.slice p n c] w fun e w' => ∃ fc : Array Value, e = .returned (.agg fc) ∧ (Tryz.prog.info? 121).map (·.size) = some fc.size ∧ Below w.heap.size w w'
theorem look_ok (p : Option Go.Addr) (n c : Nat) (hn : n < 20) (w : World) : LookOk p n c w := (look_short p n c hn w).mono fun _ _ ⟨h1, h2⟩ => ⟨zeroFc, h1, fc_size, h2⟩
set_option maxRecDepth 100000 in
set_option maxHeartbeats 4000000 in
theorem fmatch_any (p : Option Go.Addr) (c : Nat) (pd : Option Go.Addr) (n cd : Nat) (w : World) (h : AnyAt w p) (hl : ∀ w', Below w.heap.size w w' → LookOk pd n cd w') : Calls Tryz.prog 64 #[.slice p 1 c, .slice pd n cd] w fun e w' => e = .returned (.tuple #[.bool true, .int .i64 0]) ∧ Below w.heap.size w w' := by
  have HA := Lib.hid h
  have HL := Lib.hid hl
  clear h hl
  go_enter Tryz.func64, Tryz.ntmps64
  go_upto_region 3 with (go_at_call 62; refine (valid_any p c _ HA.out).mono ?_; rintro e V ⟨rfl, hV⟩)
  have HA1 := Lib.hid (HA.out.later hV)
  have HV := Lib.hid hV
  have HL1 : Hid (LookOk pd n cd V) := Lib.hid (HL.out V hV)
  clear hV
  go_wp2_with (first | (go_at_call 75; refine HL1.out.mono ?_; rintro e V1 ⟨fc, rfl, hfc, hV1⟩; have HFC := Lib.hid hfc; have HA2 := Lib.hid (HA1.out.later hV1); have HV1 := keep HV hV1; clear hfc hV1) | (go_at_call 76; refine (match_any fc HFC.out p c _ HA2.out).mono ?_; rintro e V2 ⟨rfl, hV2⟩))
  go_ret2
  exact ⟨rfl, (keep HV1 hV2).out⟩
set_option maxRecDepth 100000 in
set_option maxHeartbeats 4000000 in
theorem pickc_any (r : Rec) (pd : Option Go.Addr) (n cd : Nat) (g : Nat) (p : Option Go.Addr) (c : Nat) (w : World) (hb : Blk w g 57 #[.slice p 1 c]) (h : AnyAt w p) (hl : ∀ w', Below w.heap.size w w' → LookOk pd n cd w') :
    Calls Tryz.prog 63 #[.agg (recC r (.slice pd n cd)).toArray, .pointer (some ⟨g, 0, none⟩)] w fun e w' => e = .returned (.bool true) ∧ Below w.heap.size w w' := by
  have HA := Lib.hid h
  have HL := Lib.hid hl
  have HB := Lib.hid hb
  clear h hl hb
  unfold recC
  go_enter Tryz.func63, Tryz.ntmps63
  go_upto_region 1 with fail
  refine wp_named fun W hW => ?_
  obtain ⟨bk, BW, sW⟩ := box1 hW
  have HA1 := Lib.hid (HA.out.later BW.out)
  have HB1 := Lib.hid (HB.out.later BW.out HB.out.lt)
  have c4 : W.cell? ⟨w.heap.size, 4, none⟩ = some (.slice pd n cd) := bk.out.cell _
  have d0 : W.cell? ⟨g, 0, none⟩ = some (.slice p 1 c) := HB1.out.cell _
  have HL1 : Hid (∀ w', Below W.heap.size W w' → LookOk pd n cd w') := Lib.hid (fun w' h => HL.out w' (keep BW h).out)
  clear hW
  go_wp2_with (go_at_call 64; refine (fmatch_any p c pd n cd _ HA1.out HL1.out).mono ?_; rintro e V ⟨rfl, hV⟩)
  go_ret
  exact ⟨rfl, (keep BW hV).out⟩
theorem enters63 : ∀ args w, (callFunc 63 args).run Tryz.prog w = .ok (.enter 63 args) w := Go.Proofs.enters_of Tryz.func63 (by kernel_rfl) rfl
set_option maxRecDepth 100000 in
set_option maxHeartbeats 4000000 in
theorem pick_any (t : Tp) (ht : rightV t = true) (p : Option Go.Addr) (c : Nat) (q : Option Go.Addr) (d : Nat) (w : World) (hp : RAt w p t.recs) (hq : AnyAt w q)
    (hl : ∀ w', Below w.heap.size w w' → ∀ r ∈ t.recs, ∀ pd cd, BAt w' pd r.data → SlOk pd r.data.length cd → LookOk pd r.data.length cd w') :
    Calls Tryz.prog 31 #[.agg #[.int .i64 t.snap, .slice p t.recs.length c], .slice q 1 d] w fun e w' =>
    ∃ v ds, e = .returned (.tuple #[.agg #[.int .i64 t.snap, v], .int .i64 0]) ∧ TO w' w.heap.size v (pickV (fun _ => true) t.snap t.recs) ds ∧ Below w.heap.size w w' := by
  have HP := Lib.hid hp
  have HQ := Lib.hid hq
  have HR := Lib.hid (fun w' (h : Below w.heap.size w w') => right_calls t p c w' (hp.later h))
  have HWN : Hid (∀ w', Below w.heap.size w w' → ∀ g, Blk w' g 57 #[.slice q 1 d] → Wants 63 #[.pointer (some ⟨g, 0, none⟩)] (fun _ => true) w' t.recs) := Lib.hid (fun w' h g hg w'' h2 r hr pd cd hb hs =>
    pickc_any r pd r.data.length cd g q d w'' (hg.later h2 hg.lt) ((hq.later h).later h2) (fun z hz => hl z ((h.trans (h2.mono h.size)).trans (hz.mono (Nat.le_trans h.size h2.size))) r hr pd cd (hb.later hz) hs))
  have HPK := Lib.hid (fun w' (h : Below w.heap.size w w') g (hg : Blk w' g 57 #[.slice q 1 d]) => picked_calls 63 #[.pointer (some ⟨g, 0, none⟩)] (fun _ => true) enters63 t p c t.snap (right_snap ht).1 w' (hp.later h) (Nat.le_trans (right_len ht) (by omega)) (fun r hr => Nat.le_trans (right_data ht r hr) (by omega)) (HWN.out w' h g hg))
  rw [ht] at HR
  obtain ⟨n, hn⟩ : ∃ n, t.recs.length = n := ⟨_, rfl⟩
  obtain ⟨sn, hsn⟩ : ∃ n, t.snap = n := ⟨_, rfl⟩
  rw [hn, hsn] at HR HPK
  rw [hn, hsn]
  clear hp hn hsn hq hl HWN ht
  go_enter Tryz.func31, Tryz.ntmps31
  go_upto_region 1 with fail
  refine wp_named fun W hW => ?_
  obtain ⟨bk, bx, bq, BW, sW⟩ := box3 hW
  obtain ⟨b0, hb0⟩ : ∃ b, w.heap.size = b := ⟨_, rfl⟩
  have HB0 := Lib.hid hb0
  have c0 : W.cell? ⟨w.heap.size, 0, none⟩ = some (.int .i64 sn) := bk.out.cell _
  have c1 : W.cell? ⟨w.heap.size, 1, none⟩ = some (.slice p n c) := bk.out.cell _
  have x0 : W.cell? ⟨w.heap.size + 1, 0, none⟩ = some (.slice q 1 d) := bx.out.cell _
  rw [hb0] at bk bx bq sW c0 c1 x0 ⊢
  clear hW hb0
  obtain ⟨m, hm⟩ : ∃ m, (pickV (fun _ => true) sn t.recs).length = m := ⟨_, rfl⟩
  have HM := Lib.hid hm
  clear hm
  go_upto_region 3 with (first | (go_at_call 16; refine (HR.out W BW.out).mono ?_; rintro e V ⟨rfl, hB1⟩; have c0 := (hB1.cell (World.block_lt_of_cell? _ _ c0)).trans c0; have c1 := (hB1.cell (World.block_lt_of_cell? _ _ c1)).trans c1; have x0 := (hB1.cell (World.block_lt_of_cell? _ _ x0)).trans x0) | (go_at_call 62; refine (valid_any q d _ (HQ.out.later (keep BW hB1).out)).mono ?_; rintro e V2 ⟨rfl, hB2⟩; have c0 := (hB2.cell (World.block_lt_of_cell? _ _ c0)).trans c0; have c1 := (hB2.cell (World.block_lt_of_cell? _ _ c1)).trans c1; have x0 := (hB2.cell (World.block_lt_of_cell? _ _ x0)).trans x0))
  have BV := keep (keep BW hB1) hB2
  have bq := Lib.hid ((bq.out.later hB1 bq.out.lt).later hB2 (Nat.lt_of_lt_of_le bq.out.lt hB1.size))
  have bx := Lib.hid ((bx.out.later hB1 bx.out.lt).later hB2 (Nat.lt_of_lt_of_le bx.out.lt hB1.size))
  have bqlt := Lib.hid bq.out.lt
  clear hB1 hB2
  go_wp2_with (go_at_call 59; refine (HPK.out V2 BV.out (b0 + 1) bx.out).mono ?_; rintro e V3 ⟨v, ds, rfl, hT, hB2⟩; obtain ⟨pv, cv, hv, _, _, _⟩ := hT.rat; rw [HM.out] at hv; subst hv; have bq := Lib.hid (bq.out.later hB2 bq.out.lt); have q0 : V3.cell? ⟨b0 + 1 + 1, 0, none⟩ = some (.int .i64 0) := bq.out.cell _; have q1 : V3.cell? ⟨b0 + 1 + 1, 1, none⟩ = some (.slice none 0 0) := bq.out.cell _; have g0 : V3.frozen? ⟨b0 + 1 + 1, 0, none⟩ = false := bq.out.frozen _; have g1 : V3.frozen? ⟨b0 + 1 + 1, 1, none⟩ = false := bq.out.frozen _)
  obtain ⟨k1, k2, k3⟩ := tape_fin sn bq.out hT (by have := bqlt.out; omega) (keep BV hB2).out (by rw [HB0.out]; omega) BV.out.size
  exact bodyPost_ret (v := .tuple #[.agg #[.int .i64 sn, .slice pv m cv], .int .i64 0]) (by exact results_cell2 (fn := Tryz.f31) rfl _ _ (b0 + 1 + 1) 24 _ _ rfl k1 Tryz.underlying24 rfl tape_size) rfl ⟨.slice pv m cv, ds, rfl, k2, k3⟩
end Go.Proofs.YtpciggnanlflkaaGreatDoor.Ad
