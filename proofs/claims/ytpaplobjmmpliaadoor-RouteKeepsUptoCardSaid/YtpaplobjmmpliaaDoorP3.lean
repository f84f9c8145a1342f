/- A strings.Builder that the call itself has made: its check and its writer. Conditions: the text stays below 2^47 bytes. Contract of route.Print. Conditions: addresses have sixteen bytes, numbers lie within 64 bits; the library tables hold what its text lays. -/
import Derived.Test.YtpaplobjmmpliaaDoorBq
import Derived.Test.YtpaplobjmmpliaaDoorP1
import Derived.Test.YtpaplobjmmpliaaDoorP2
import Derived.Test.YtpaplobjmmpliaaDoorRo
import Derived.Test.YtpaplobjmmpliaaDoorRp
import Derived.Test.YtpaplobjmmpliaaDoorSh
import Derived.Test.YtpaplobjmmpliaaDoorSi
import Derived.Laws.Rows
import Derived.Shelf.Strings.Builder1
namespace Go.Proofs.YtpaplobjmmpliaaDoor.Ad
set_option linter.unusedVariables false
set_option linter.unusedSimpArgs false
open Go.RowKit W
theorem own_base {w : World} {B B' : Nat} {E : TypeId} {size : Nat} {v : Value} {n : Nat} {xs : List Value} (h : w.ownsRow B E size v n xs) (hb : B' ≤ B) : w.ownsRow B' E size v n xs := by
  rcases h with ⟨h1, h2⟩
  refine ⟨h1, ?_⟩
  rcases h2 with h2 | ⟨g, cap, cur, e, hB, r⟩
  · exact .inl h2
  · exact .inr ⟨g, cap, cur, e, by omega, r⟩
theorem bsize : (Tryd.prog.info? 69).map (·.size) = some 2 := by kernel_rfl
theorem blies : liesAt Tryd.prog Tryd.prog.depth 69 (2 / Tryd.prog.cellsOf 69) 0 69 1 = true := by kernel_rfl
set_option maxRecDepth 100000 in
theorem check_used (b : Nat) (w : World) (h0 : w.cell? ⟨b, 0, none⟩ = some (.pointer (some ⟨b, 0, none⟩))) :
    Calls Tryd.prog 57 #[.pointer (some ⟨b, 0, none⟩)] w fun e w' => e = .returned (.tuple #[]) ∧ w' = w := by
  obtain ⟨j, hj, _⟩ := Option.map_eq_some_iff.1 bsize
  go_enter Tryd.func57, Tryd.ntmps57
  go_wp2
  rw [Lib.run_neq_ptr_same w _ Tryd.underlying66 hj]
  go_wp2
  go_end0
  exact ⟨rfl, rfl⟩
set_option maxRecDepth 100000 in
set_option maxHeartbeats 1000000 in
theorem check_fresh (b : Nat) (w : World) (h0 : w.cell? ⟨b, 0, none⟩ = some (.pointer none)) (hsh : w.shape? b = some (69, 2)) (hfz : w.frozen? ⟨b, 0, none⟩ = false) :
    Calls Tryd.prog 57 #[.pointer (some ⟨b, 0, none⟩)] w fun e w' => e = .returned (.tuple #[]) ∧ w' = w.setCell ⟨b, 0, none⟩ (.pointer (some ⟨b, 0, none⟩)) := by
  obtain ⟨j, hj, hjs⟩ := Option.map_eq_some_iff.1 bsize
  go_enter Tryd.func57, Tryd.ntmps57
  go_wp2
  rw [Lib.run_to_unsafe w ⟨b, 0, none⟩ Tryd.underlying66 Tryd.underlying109 hj (by rw [hjs]; decide) hsh (Nat.zero_lt_succ 1)]
  simp only [Result.andThen]
  rw [Oper.upon_value]
  go_wp2
  rw [run_callFunc_extern Tryd.func72 (by kernel_rfl) (by kernel_rfl) (by kernel_rfl) (e := Extern.AbiNoEscape.same) (by kernel_rfl)]
  rw [Lib.run_noEscape]
  simp only [Result.andThen]
  rw [Oper.upon_value]
  go_wp2
  rw [Lib.run_from_unsafe w ⟨b, 0, none⟩ Tryd.underlying109 Tryd.underlying66 hj hsh blies]
  simp only [Result.andThen]
  rw [Oper.upon_value]
  go_wp2
  go_end0
  exact ⟨rfl, rfl⟩
/-- A builder in block b that holds the bytes l; its row lies at or behind block R. -/
def Bd (R b : Nat) (l : List UInt8) (w : World) : Prop :=
  b < R ∧ ∃ p v, (p = .pointer none ∨ p = .pointer (some ⟨b, 0, none⟩)) ∧ w.heap[b]? = some (.cells #[p, v] 69 (0, 0)) ∧ w.ownsRow R 5 1 v l.length (Lib.byteCells l)
/-- What stands in blocks below R stands as it stood, but for block b. -/
structure But (b R : Nat) (w w' : World) : Prop where
  below : Below b w w'
  rest : ∀ k, b < k → k < R → w'.heap[k]? = w.heap[k]?
theorem But.trans {b R : Nat} {w w' w'' : World} (h : But b R w w') (k : But b R w' w'') : But b R w w'' := ⟨h.below.trans k.below, fun j h1 h2 => (k.rest j h1 h2).trans (h.rest j h1 h2)⟩
theorem But.of {b R : Nat} {w w' : World} (h : Below R w w') (hb : b ≤ R) : But b R w w' := ⟨h.mono hb, fun k _ h2 => h.block k h2⟩
theorem But.cell {b R : Nat} {w w' : World} (h : But b R w w') {a : Go.Addr} (h1 : a.block < R) (h2 : a.block ≠ b) : w'.cell? a = w.cell? a := by
  refine World.cell?_of_block ?_
  rcases Nat.lt_or_gt_of_ne h2 with h3 | h3
  · exact h.below.block _ h3
  · exact h.rest _ h3 h1
theorem Bd.new (w : World) (R : Nat) (h : w.heap.size < R) : Bd R w.heap.size [] (w.alloc (.cells #[.pointer none, .slice none 0 0] 69)) :=
  ⟨h, _, _, .inl rfl, heap_alloc_new w _, World.ownsRow_nil _ _ _ _⟩
theorem Bd.raise {R R' b : Nat} {w : World} (h : Bd R b [] w) (hR : R ≤ R') (hnil : ∀ v, w.cell? ⟨b, 1, none⟩ = some v → v = .slice none 0 0) : Bd R' b [] w := by
  obtain ⟨h1, p, v, h2, h3, h4⟩ := h
  obtain rfl := hnil v (by rw [Lib.cell_of_heap h3]; rfl)
  exact ⟨by omega, p, _, h2, h3, World.ownsRow_nil _ _ _ _⟩
theorem Bd.later {R b : Nat} {l : List UInt8} {w w' : World} (h : Bd R b l w) (hb : Below w.heap.size w w') : Bd R b l w' := by
  obtain ⟨h1, p, v, h2, h3, h4⟩ := h
  exact ⟨h1, p, v, h2, (hb.block b (Array.getElem?_eq_some_iff.1 h3).1).trans h3, own_later h4 hb⟩
theorem Bd.lt {R b : Nat} {l : List UInt8} {w : World} (h : Bd R b l w) : b < w.heap.size := by
  obtain ⟨h1, p, v, h2, h3, h4⟩ := h
  exact (Array.getElem?_eq_some_iff.1 h3).1
theorem Bd.is {R b : Nat} {l : List UInt8} {w : World} (h : Bd R b l w) : Lib.IsBuilder 69 5 b b (Lib.byteCells l) w := by
  obtain ⟨h1, p, v, h2, h3, h4⟩ := h
  have h5 : w.ownsRow b 5 1 v (Lib.byteCells l).length (Lib.byteCells l) := by rw [Lib.byteCells_length]; exact own_base h4 (by omega)
  have hne := Lib.ownBlock_ne h4 h3 (by decide)
  rcases h2 with rfl | rfl
  · exact .inl ⟨Nat.le_refl _, v, h3, h5, hne⟩
  · exact .inr ⟨Nat.le_refl _, v, h3, h5, hne⟩
theorem bput_cell {w : World} {R b j : Nat} {x : Value} : But b R w (w.setCell ⟨b, j, none⟩ x) := ⟨(Below.refl b w).setCell (p := ⟨b, j, none⟩) (Nat.le_refl _) _, fun k h1 _ => heap_setCell_other w _ k x (by show k ≠ b; omega)⟩
theorem own_put {w : World} {R b j : Nat} {x v : Value} {n : Nat} {xs : List Value} (h : w.ownsRow R 5 1 v n xs) (hb : b < R) : (w.setCell ⟨b, j, none⟩ x).ownsRow R 5 1 v n xs := ownsRow_setCell_below h (by exact hb) x
theorem check_calls (R b : Nat) (l : List UInt8) (w : World) (h : Bd R b l w) :
    Calls Tryd.prog 57 #[.pointer (some ⟨b, 0, none⟩)] w fun e w' => e = .returned (.tuple #[]) ∧
      (∃ v, w'.heap[b]? = some (.cells #[.pointer (some ⟨b, 0, none⟩), v] 69 (0, 0)) ∧ w'.ownsRow R 5 1 v l.length (Lib.byteCells l)) ∧ But b R w w' := by
  obtain ⟨h1, p, v, h2, h3, h4⟩ := h
  have c0 : w.cell? ⟨b, 0, none⟩ = some p := by rw [Lib.cell_of_heap h3]; rfl
  rcases h2 with rfl | rfl
  · refine (check_fresh b w c0 (by simp [World.shape?, h3]) (Lib.frozen_of_heap h3 0)).mono ?_
    rintro e w' ⟨rfl, rfl⟩
    exact ⟨rfl, ⟨v, (heap_setCell_same w b 0 _ _ _ h3).trans (by simp), own_put h4 h1⟩, bput_cell⟩
  · refine (check_used b w c0).mono ?_
    rintro e w' ⟨rfl, rfl⟩
    exact ⟨rfl, ⟨v, h3, h4⟩, But.of (Below.refl _ _) (by omega)⟩
theorem byteCells_app (l m : List UInt8) : Lib.byteCells (l ++ m) = Lib.byteCells l ++ Lib.byteCells m := by simp [Lib.byteCells]
theorem strCells_eq (s : ByteArray) : Lib.strCells s = Lib.byteCells s.data.toList := by
  first | rfl | simp [Lib.strCells, Lib.byteCells]
set_option maxRecDepth 100000 in
set_option maxHeartbeats 2000000 in
theorem write_calls (R b : Nat) (l : List UInt8) (s : ByteArray) (w : World) (h : Bd R b l w) (hlen : l.length + s.size ≤ 140737488355328) (hBw : R ≤ w.heap.size) :
    Calls Tryd.prog 38 #[.pointer (some ⟨b, 0, none⟩), .string s] w fun e w' => e = .returned (.tuple #[.int .i64 s.size, .nilIface]) ∧ Bd R b (l ++ s.data.toList) w' ∧ But b R w w' := by
  obtain ⟨i0, hi, hz0, hz1, hz2⟩ := info_parts (show (Tryd.prog.info? 5).map (fun i => (i.zero, i.size, i.bytes)) = some (some (.int .u8 0), 1, 1) by kernel_rfl)
  have HC := Lib.hid (check_calls R b l w h)
  have hbR := h.1
  clear h
  go_enter Tryd.func38, Tryd.ntmps38
  go_upto_region 2 with (go_at_call 57; refine HC.out.mono ?_; rintro e w1 ⟨rfl, h1, hb1⟩)
  obtain ⟨v, hbk, hown⟩ := h1
  have c0 : w1.cell? ⟨b, 0, none⟩ = some (.pointer (some ⟨b, 0, none⟩)) := by rw [Lib.cell_of_heap hbk]; rfl
  have c1 : w1.cell? ⟨b, 1, none⟩ = some v := by rw [Lib.cell_of_heap hbk]; rfl
  go_wp2_with (at_builtin; refine Lib.wpList_append_own_string _ rfl _ _ 67 9 rfl R 5 i0 Tryd.underlying67 Tryd.underlying9 hi hz0 hz1 hz2 _ _ _ rfl hown s rfl ?c3 ?c4 ?c5 ?_)
  case c3 => unfold maxLen; omega
  case c4 => omega
  case c5 => have := hb1.below.size; omega
  intro v' w2 hown' hgrow _
  have hlt : b < w1.heap.size := (Array.getElem?_eq_some_iff.1 hbk).1
  have hne := Lib.ownBlock_ne hown hbk (by decide)
  have hb2 : w2.heap[b]? = some (.cells #[.pointer (some ⟨b, 0, none⟩), v] 69 (0, 0)) := by
    rw [hgrow.block b hlt (fun e => hne e.symm)]
    exact hbk
  have d0 : w2.cell? ⟨b, 0, none⟩ = some (.pointer (some ⟨b, 0, none⟩)) := by rw [Lib.cell_of_heap hb2]; rfl
  have d1 : w2.cell? ⟨b, 1, none⟩ = some v := by rw [Lib.cell_of_heap hb2]; rfl
  have f1 : w2.frozen? ⟨b, 1, none⟩ = false := Lib.frozen_of_heap hb2 1
  obtain ⟨ao, n', cap, rfl⟩ : ∃ ao n' cap, v' = .slice ao n' cap := by
    rcases hown'.2 with ⟨hv, _⟩ | ⟨g, cap, cur, hv, _⟩
    · exact ⟨_, _, _, hv⟩
    · exact ⟨_, _, _, hv⟩
  have hB12 : Below R w1 w2 := (Below.refl R w1).grown hgrow (by have := hb1.below.size; omega) (fun k hk => (hown.lt k hk).1)
  go_wp2
  go_ret2
  refine ⟨rfl, ⟨hbR, _, _, .inr rfl, (heap_setCell_same w2 b 1 _ _ _ hb2).trans (by simp; rfl), ?_⟩, (hb1.trans (But.of hB12 (by omega))).trans bput_cell⟩
  have h9 := own_put (j := 1) (x := .slice ao n' cap) hown' hbR
  rw [byteCells_app, ← strCells_eq, List.length_append]
  exact h9
end Go.Proofs.YtpaplobjmmpliaaDoor.Ad
namespace Go.Proofs.YtpaplobjmmpliaaDoor.Ad
set_option linter.unusedVariables false
set_option linter.unusedSimpArgs false
open Go.RowKit Go.Maps W
theorem itoa_is {y : Int} {n : Nat} (hn : n < 65536) (hy : (n : Int) = y) (w : World) (hg : Gp w) : Calls Tryd.prog 40 #[.int .i64 y] w fun e w' => e = .returned (.string (S (textB 10 n))) ∧ Below w.heap.size w w' := by
  subst hy; exact itoa_calls n hn w hg
theorem string_calls (R b : Nat) (l : List UInt8) (w : World) (h : Bd R b l w) : Calls Tryd.prog 41 #[.pointer (some ⟨b, 0, none⟩)] w fun e w' => e = .returned (.string (S l)) ∧ Below b w w' :=
  Tryd.Builder_String_any b b l w h.is (by have := h.lt; omega)
theorem line_S (r : Rt) : ((((S (printV r.net) ++ ⟨#[47]⟩) ++ S (textB 10 r.bits.toNat)) ++ ⟨#[32]⟩) ++ S (textB 10 r.link.toNat)) ++ ⟨#[10]⟩ = S (lineT r ++ [10]) := by
  rw [show (⟨#[47]⟩ : ByteArray) = S [47] from rfl, show (⟨#[32]⟩ : ByteArray) = S [32] from rfl, show (⟨#[10]⟩ : ByteArray) = S [10] from rfl]
  simp only [S_app]
  unfold lineT
  simp
set_option maxRecDepth 100000 in
set_option maxHeartbeats 4000000 in
theorem printl_calls {l : List Rt} (hl : ∀ r ∈ l, r.wf) (p : Option Go.Addr) (c : Nat) (w : World) (hp : AtS w p l) (hg : Gp w) : Calls Tryd.prog 21 #[.slice p l.length c] w fun e w' =>
    e = .returned (.tuple #[.string (S (printR l).1), .int .i64 (printR l).2]) ∧ Below w.heap.size w w' := by
  have HM := Lib.hid (may_calls hl p c w hp.at)
  have HG := Lib.hid hg
  clear hg
  cases hm : mayV l
  · rw [hm] at HM
    have e : printR l = ([], 1) := by unfold printR; rw [hm]; rfl
    rw [e]
    clear hp hl hm e
    go_enter Tryd.func21, Tryd.ntmps21
    go_wp2_with (go_at_call 24; refine HM.out.mono ?_; rintro e W1 ⟨rfl, hB⟩)
    go_ret2
    exact ⟨rfl, hB⟩
  · rw [hm] at HM
    have e : printR l = (linesT (sortV l), 0) := by unfold printR; rw [hm]; rfl
    rw [e]
    have HS := Lib.hid (fun w' (hb : Below w.heap.size w w') => sorted_calls hl hm p c w' (hp.later hb))
    have HW := Lib.hid (sortV_wf hl)
    have HO := Lib.hid (fun r (hr : r ∈ sortV l) => ((sort_all (fun r hr => (hl r hr).ok) hm).1 r hr).2)
    have hsl := sortV_len l
    have h32 := may_32 hm
    clear hp hl hm e
    obtain ⟨s, hs⟩ : ∃ s, sortV l = s := ⟨_, rfl⟩
    rw [hs] at HS HW HO hsl ⊢
    obtain ⟨n, hn⟩ : ∃ n, l.length = n := ⟨_, rfl⟩
    rw [hn] at HM HS hsl h32 ⊢
    have HN := Lib.hid hsl
    have hb32 : n ≤ 32 := h32
    clear hs hn hsl h32
    go_enter Tryd.func21, Tryd.ntmps21
    go_upto_region 3 with (go_at_call 24; refine HM.out.mono ?_; rintro e W1 ⟨rfl, hB1⟩)
    have HB := Lib.hid hB1
    clear hB1 HM
    go_upto_region 4 with fail
    refine wp_named fun W hW => ?_
    have HLB : Hid (w.heap.size ≤ W1.heap.size) := Lib.hid HB.out.size
    have HBD : Hid (∀ R, W1.heap.size < R → Bd R W1.heap.size [] W) := Lib.hid fun R hR => by rw [hW]; exact Bd.new W1 R hR
    have HWS : Hid (W.heap.size = W1.heap.size + 1) := Lib.hid (by rw [hW]; simp)
    have HB := Lib.hid (show Below w.heap.size w W by rw [hW]; exact HB.out.alloc HB.out.size _)
    clear hW
    obtain ⟨b, hb⟩ : ∃ b, W1.heap.size = b := ⟨_, rfl⟩
    rw [hb] at HBD HWS HLB ⊢
    clear hb
    go_upto_region 5 with (go_at_call 25; refine (HS.out _ HB.out).mono ?_; rintro e W2 ⟨p', c', rfl, hA, hF, hB2⟩)
    have HRB : Hid (b < W2.heap.size) := Lib.hid (by have := hB2.size; have := HWS.out; omega)
    have HBD : Hid (Bd W2.heap.size b [] W2) := Lib.hid ((HBD.out _ HRB.out).later hB2)
    have HFR : Hid (∀ a, p' = some a → b < a.block) := Lib.hid fun a ha => by have := hF a ha; have := HWS.out; omega
    have HA := Lib.hid hA
    have HB := keep HB hB2
    clear hA hF hB2 HS HWS
    go_wp2
    go_loopw [6, 13] (fun _ u wr => ∃ k : Nat, u = .int .i64 k ∧ k ≤ n ∧ Hid (Bd W2.heap.size b (linesT (s.take k)) wr) ∧ Hid (But b W2.heap.size W2 wr)) (fun _ u _ => n - (intOf u).toNat)
    case atStart => exact ⟨0, rfl, Nat.zero_le _, HBD, Lib.hid (But.of (Below.refl _ _) (Nat.le_of_lt HRB.out))⟩
    case round =>
      obtain ⟨k, rfl, hk, HD, HBU⟩ := hrel
      have HSW : Hid (W2.heap.size ≤ wr.heap.size) := Lib.hid HBU.out.below.size
      have HBW : Hid (Below w.heap.size w wr) := Lib.hid (HB.out.trans (HBU.out.below.mono HLB.out))
      by_cases hlt : k < n
      · have e1 : decide ((k : Int) < (n : Int)) = true := decide_eq_true (by omega)
        have e1' : decide (k < n) = true := decide_eq_true hlt
        have HK : Hid (k < s.length) := Lib.hid (by have := HN.out; omega)
        obtain ⟨r, hr⟩ : ∃ r, s[k]? = some r := ⟨_, List.getElem?_eq_getElem HK.out⟩
        have HR := Lib.hid hr
        have hok := Lib.hid (HW.out r (List.mem_of_getElem? hr)).ok
        have hone := Lib.hid (HO.out r (List.mem_of_getElem? hr))
        have hap := HA.out
        clear hr
        rcases hap with ⟨_, hap⟩ | ⟨g, o, rfl, hgl, hh⟩
        · have := HK.out; rw [hap] at this; exact absurd this (Nat.not_lt_zero _)
        have HH : Hid (wr.rangeAt g (o + k * 19) r.vals) := Lib.hid fun j v hj => (HBU.out.cell (by exact hgl) (by have := HFR.out _ rfl; show g ≠ b; simp only at this; omega)).trans (hh k r HR.out j v hj)
        clear hh hgl
        go_upto_region 7 with (first | (refine wpList_load_at rfl 44 _ rfl g (o + k * 19) r.vals _ rfl HH.out Tryd.underlying44 rfl (by as_aux_lemma => exact rsz hok.out) ?_) | (refine wpList_store_blk rfl 44 _ _ rfl wr.heap.size 44 zeroRt.cells r.cells rfl rfl (Blk.new _ _ _) (by rw [rcs hok.out, rcs zeroRt_ok]) (rszc hok.out) (rone _) ?_; intro W3 P3))
        obtain ⟨B7, b5, s7, t7⟩ := call_store (Below.refl wr.heap.size wr) P3
        obtain ⟨G1, hG1⟩ : ∃ g, wr.heap.size = g := ⟨_, rfl⟩
        have HD := Lib.hid (HD.out.later B7.out)
        have HBV := Lib.hid (HBW.out.trans (B7.out.mono HBW.out.size))
        have HBU := Lib.hid (HBU.out.trans (But.of (B7.out.mono HSW.out) (Nat.le_of_lt HRB.out)))
        have HGW := Lib.hid (HG.out.later HBV.out)
        rw [hG1] at b5 ⊢
        clear P3 s7 t7 hG1 HH B7
        obtain ⟨n1, n2, n3, n4⟩ := line_num hone.out
        have HPR := Lib.hid (fun z : Later W3 => print_calls r.net hok.out z.val (HGW.out.later z.property))
        rw [cells_vals] at HPR
        have HI1 := Lib.hid (fun z : Later W3 => itoa_is (y := r.bits) (n := r.bits.toNat) (by omega) n2 z.val (HGW.out.later z.property))
        have HI2 := Lib.hid (fun z : Later W3 => itoa_is (y := r.link) (n := r.link.toNat) (by omega) n4 z.val (HGW.out.later z.property))
        have c17 : ∀ z : Later W3, z.val.cell? ⟨G1, 17, none⟩ = some (.int .i64 r.bits) := Later.cell (bits_at b5.out hok.out)
        have c18 : ∀ z : Later W3, z.val.cell? ⟨G1, 18, none⟩ = some (.int .i64 r.link) := Later.cell (link_at b5.out hok.out)
        have HNET := Lib.hid (net_at b5.out)
        have HSV : Hid (W2.heap.size ≤ W3.heap.size) := Lib.hid HBU.out.below.size
        have HLN : Hid ((linesT (s.take k)).length ≤ 2300 * 32 ∧ (lineT r).length ≤ 2200) := Lib.hid (by
          have h1 := lines_le (s.take k) fun x hx => HO.out x (List.mem_of_mem_take hx)
          have h2 := line_le hone.out
          rw [List.length_take] at h1
          omega)
        have HNX : Hid (linesT (s.take (k + 1)) = linesT (s.take k) ++ (lineT r ++ [10])) := Lib.hid (by rw [List.take_add_one, HR.out]; exact linesT_snoc _ _)
        clear b5
        have HZZ : Hid ((S (printV r.net)).size ≤ 5000 ∧ (S (textB 10 r.bits.toNat)).size ≤ 5000 ∧ (S (textB 10 r.link.toNat)).size ≤ 100000) := Lib.hid (by
          rw [S_size, S_size, S_size]
          have h1 := print_le r.net; have h2 := textB_le 10 r.bits.toNat; have h3 := textB_le 10 r.link.toNat
          omega)
        have z1 : ¬ 9223372036854775807 < (S (printV r.net)).size + 1 := by have := HZZ.out; omega
        have z2 : ¬ 9223372036854775807 < (S (printV r.net)).size + 1 + (S (textB 10 r.bits.toNat)).size := by have := HZZ.out; omega
        have z3 : ¬ 9223372036854775807 < (S (printV r.net)).size + 1 + (S (textB 10 r.bits.toNat)).size + 1 := by have := HZZ.out; omega
        have z4 : ¬ 9223372036854775807 < (S (printV r.net)).size + 1 + (S (textB 10 r.bits.toNat)).size + 1 + (S (textB 10 r.link.toNat)).size := by have := HZZ.out; omega
        have z5 : ¬ 9223372036854775807 < (S (printV r.net)).size + 1 + (S (textB 10 r.bits.toNat)).size + 1 + (S (textB 10 r.link.toNat)).size + 1 := by have := HZZ.out; omega
        clear n1 n2 n3 n4 HZZ
        simp only [Act.put]
        refine region_later_tail 14 (by kernel_rfl) (by kernel_rfl) ?_
        simp only [List.take_succ_cons, List.take_zero, List.drop_succ_cons, List.drop_zero]
        repeat (first | go_big_quiet_skip | (go_big_quiet_want; first | (refine quiet_at 35 _ rfl G1 0 r.net.vals _ rfl HNET.out Tryd.underlying35 rfl (by as_aux_lemma => exact asz hok.out) ?_; simp only [Act.put, List.setIfInBounds_toArray, List.set_cons_zero, List.set_cons_succ]; go_big_quiet_on) | (go_big_quiet_op; first | go_big_quiet_on | go_big_quiet_call ((first | (go_at_call 39; exact calls_later (HPR.out _)) | (go_at_call 40; first | (with_reducible exact calls_later (HI1.out _)) | (with_reducible exact calls_later (HI2.out _))))))))
        refine wpQuiet_nil ?_
        intro z hz
        rw [line_S]
        have HDz := Lib.hid (HD.out.later hz)
        have HSZ : Hid (W2.heap.size ≤ z.heap.size) := Lib.hid (Nat.le_trans HSV.out hz.size)
        have HBU := Lib.hid (HBU.out.trans (But.of (hz.mono HSV.out) (Nat.le_of_lt HRB.out)))
        have HWR := Lib.hid (write_calls W2.heap.size b (linesT (s.take k)) (S (lineT r ++ [10])) z HDz.out (by have := HLN.out; rw [S_size, List.length_append]; simp; omega) HSZ.out)
        clear hz c17 c18
        go_wp2_with (go_at_call 38; refine HWR.out.mono ?_; rintro e W4 ⟨rfl, hD4, hB4⟩)
        rw [S_list, ← HNX.out] at hD4
        exact ⟨⟨k + 1, by go_num, by omega, Lib.hid hD4, Lib.hid (HBU.out.trans hB4)⟩, by simp [intOf]; omega⟩
      · have e1 : decide ((k : Int) < (n : Int)) = false := decide_eq_false (by omega)
        have e1' : decide (k < n) = false := decide_eq_false hlt
        have HF := Lib.hid (string_calls _ b _ _ HD.out)
        have HT : Hid (linesT (s.take k) = linesT s) := Lib.hid (by
          have hkn : k = n := by omega
          rw [hkn, ← HN.out, List.take_length])
        rw [HT.out] at HF
        clear hlt
        go_wp2_with (go_at_call 41; refine HF.out.mono ?_; rintro e W5 ⟨rfl, hB5⟩)
        go_ret2
        exact ⟨rfl, HBW.out.trans (hB5.mono HLB.out)⟩
end Go.Proofs.YtpaplobjmmpliaaDoor.Ad
