/- Contract of addr.six. Conditions: a text is shorter than 2^32 - 15; the library's own variable holds a number. -/
import Derived.Test.YtpaplobjmmpliaaDoorBc
namespace Go.Proofs.YtpaplobjmmpliaaDoor.Ad
set_option linter.unusedVariables false
set_option linter.unusedSimpArgs false
open Go.RowKit W
/-- What a reader of one version answers: the address counts where the text can be read. -/
def ReadPost (r : Option Addr) (w : World) (e : Ending) (w' : World) : Prop := ∃ a : Addr, a.ok ∧ e = .returned (.tuple #[.agg a.cells, .bool r.isSome]) ∧ (∀ b, r = some b → a = b) ∧ Below w.heap.size w w'
theorem cut_calls (s : ByteArray) (hs : s.size < 4294967281) (w : World) (hg : Gl w) : Calls Tryd.prog 33 #[.string s, .string ⟨#[58, 58]⟩] w fun e w' =>
    e = .returned (.tuple #[.string ⟨(Lib.cut s.data.toList dd).1.toArray⟩, .string ⟨(Lib.cut s.data.toList dd).2.1.toArray⟩, .bool (Lib.cut s.data.toList dd).2.2]) ∧ ∃ n, w' = w.drewN n := by
  obtain ⟨m, hm⟩ := hg.max
  exact Tryd.strings_Cut s ⟨#[58, 58]⟩ m w hs hm
theorem cut_short (l : List UInt8) : (Lib.cut l dd).1.length ≤ l.length ∧ (Lib.cut l dd).2.1.length ≤ l.length := by
  unfold Lib.cut
  split
  · exact ⟨by simp; omega, by simp⟩
  · exact ⟨Nat.le_refl _, by simp⟩
theorem cut_gap {l : List UInt8} (h : (Lib.cut l dd).2.2 = false) : (Lib.cut l dd).2.1 = [] := by
  unfold Lib.cut at h ⊢
  split at h
  · cases h
  · rename_i hn; rw [if_neg hn]
theorem partF_skip (f : Nat → UInt8) (m m' : Nat) (h : ∀ i, m ≤ i → i < m' → f i = 0) (hm : m ≤ m') : partF f m = partF f m' := ext16 (partF_len _ _) (partF_len _ _) fun i hi => by
  rw [partF_at _ _ _ hi, partF_at _ _ _ hi]
  by_cases h1 : i < m
  · rw [if_pos h1, if_pos (by omega)]
  · rw [if_neg h1]
    by_cases h2 : i < m'
    · rw [if_pos h2, h i (by omega) h2]
    · rw [if_neg h2]
theorem fill_front {x y : List Int} {i : Nat} (hi : i < x.length) : (fill x y).getD i 0 = x.getD i 0 := by
  unfold fill
  rw [List.append_assoc, List.getD_eq_getElem?_getD, List.getElem?_append_left hi, ← List.getD_eq_getElem?_getD]
theorem fill_mid {x y : List Int} {i : Nat} (hi : x.length ≤ i) (h2 : i < 8 - y.length) (h8 : x.length + y.length ≤ 8) : (fill x y).getD i 0 = 0 := by
  unfold fill
  rw [List.append_assoc, List.getD_eq_getElem?_getD, List.getElem?_append_right hi, List.getElem?_append_left (by simp; omega), List.getElem?_replicate, if_pos (by omega)]; rfl
theorem fill_back {x y : List Int} {i : Nat} (h8 : x.length + y.length ≤ 8) : (fill x y).getD (8 - y.length + i) 0 = y.getD i 0 := by
  unfold fill
  rw [List.append_assoc, List.getD_eq_getElem?_getD, List.getElem?_append_right (by omega), List.getElem?_append_right (by simp; omega), ← List.getD_eq_getElem?_getD]
  congr 1; simp; omega
def join6 (rx ry : Option (List Int)) (gap : Bool) : Option Addr :=
  match rx, ry with
  | some x, some y => if gap = true then (if x.length + y.length ≤ 7 then some (ofGroups (fill x y)) else none) else (if x.length + y.length = 8 then some (ofGroups (fill x y)) else none)
  | _, _ => none
theorem read6_join (l : List UInt8) : read6 l = join6 (groupsV (Lib.cut l dd).1) (groupsV (Lib.cut l dd).2.1) (Lib.cut l dd).2.2 := rfl
theorem join6_yes {x y : List Int} {gap : Bool} (h : (gap = true ∧ x.length + y.length ≤ 7) ∨ (gap = false ∧ x.length + y.length = 8)) : join6 (some x) (some y) gap = some (ofGroups (fill x y)) := by
  unfold join6
  rcases h with ⟨rfl, h⟩ | ⟨rfl, h⟩
  · simp only [if_true]; rw [if_pos h]
  · simp only [Bool.false_eq_true, if_false]; rw [if_pos h]
theorem join6_no {rx ry : Option (List Int)} {gap : Bool} (h : ¬ (rx.isSome = true ∧ ry.isSome = true ∧ ((gap = true ∧ (rx.getD []).length + (ry.getD []).length ≤ 7) ∨ (gap = false ∧ (rx.getD []).length + (ry.getD []).length = 8)))) : join6 rx ry gap = none := by
  unfold join6
  cases rx with
  | none => rfl
  | some x =>
    cases ry with
    | none => rfl
    | some y =>
      cases gap
      · simp only [Bool.false_eq_true, if_false]; exact if_neg (fun h' => h ⟨rfl, rfl, .inr ⟨rfl, h'⟩⟩)
      · simp only [if_true]; exact if_neg (fun h' => h ⟨rfl, rfl, .inl ⟨rfl, h'⟩⟩)
theorem part_put {W0 wr : World} {g m : Nat} {v y : Int} {f : Nat → UInt8} (hm : m < 16) (hy : y = ((f m).toNat : Int)) (r : Put W0 wr g 35 (Addr.cells ⟨v, partF f m⟩)) :
    Put W0 (wr.setCell ⟨g, 1 + m, none⟩ (.int .u8 y)) g 35 (Addr.cells ⟨v, partF f (m + 1)⟩) := by
  have := r.set_ (1 + m) (.int .u8 y)
  rwa [hy, cells_set, partF_set _ _ hm, ← hy] at this
theorem put_cell {W0 wr : World} {g : Nat} {t : TypeId} {cs : Array Value} (r : Put W0 wr g t cs) {gq i : Nat} {u : Value} (h : W0.cell? ⟨gq, i, none⟩ = some u) (hne : gq ≠ g) : wr.cell? ⟨gq, i, none⟩ = some u :=
  (World.cell?_of_block (w := W0) (a := ⟨gq, i, none⟩) (r.rest gq (World.block_lt_of_cell? W0 _ h) hne)).trans h
theorem groups2_of {s : ByteArray} {r : Option (List Int)} (hs : s.size < 4294967281) (h : groupsV s.data.toList = r) : Hid (∀ w, Gl w → Calls Tryd.prog 93 #[.string s] w (GroupsPost2 r w)) := Lib.hid fun w hg => by
  rw [← h]; exact groups_calls s hs w hg
theorem group_hi {g : List Int} {i : Nat} {n : Int} (h : g.getD i 0 = n) (h0 : 0 ≤ n) (h1 : n ≤ 65535) : n / 256 = ((groupB g (2 * i)).toNat : Int) := by
  unfold groupB; rw [if_pos (by omega), show 2 * i / 2 = i by omega, h]; exact (byte_div n h0 h1).symm
theorem group_lo {g : List Int} {i : Nat} {n : Int} (h : g.getD i 0 = n) (h0 : 0 ≤ n) : n % 256 = ((groupB g (2 * i + 1)).toNat : Int) := by
  unfold groupB; rw [if_neg (by omega), show (2 * i + 1) / 2 = i by omega, h]; exact (byte_mod n h0).symm
theorem group_none {g : List Int} {i : Nat} (h : g.getD (i / 2) 0 = 0) : groupB g i = 0 := by
  unfold groupB; split <;> rw [h] <;> rfl
set_option maxRecDepth 100000 in
set_option maxHeartbeats 4000000 in
theorem six_calls (s : ByteArray) (hs : s.size < 4294967281) (w : World) (hgl : Gl w) : Calls Tryd.prog 68 #[.string s] w (ReadPost (read6 s.data.toList) w) := by
  have z0 := zero_ok
  have z6 : Addr.ok ⟨6, zeros⟩ := rfl
  have hll : s.data.toList.length = s.size := by simp
  have hcs := cut_short s.data.toList
  rw [hll] at hcs
  obtain ⟨rx, hrx⟩ : ∃ rx, groupsV (Lib.cut s.data.toList dd).1 = rx := ⟨_, rfl⟩
  obtain ⟨ry, hry⟩ : ∃ ry, groupsV (Lib.cut s.data.toList dd).2.1 = ry := ⟨_, rfl⟩
  have CX := groups2_of (s := ⟨(Lib.cut s.data.toList dd).1.toArray⟩) (by simp [ByteArray.size]; omega) hrx
  have CY := groups2_of (s := ⟨(Lib.cut s.data.toList dd).2.1.toArray⟩) (by simp [ByteArray.size]; omega) hry
  have HX := Lib.hid hrx
  have HYY := Lib.hid hry
  have HLX : Hid (∀ x, rx = some x → x.length ≤ 4294967297 ∧ ∀ n ∈ x, 0 ≤ n ∧ n ≤ 65535) := Lib.hid fun x h => by
    have := groupsV_in (HX.out.trans h); exact ⟨by omega, this.2⟩
  have HLY : Hid (∀ x, ry = some x → x.length ≤ 4294967297 ∧ ∀ n ∈ x, 0 ≤ n ∧ n ≤ 65535) := Lib.hid fun x h => by
    have := groupsV_in (HYY.out.trans h); exact ⟨by omega, this.2⟩
  have CUT := Lib.hid (cut_calls s hs)
  obtain ⟨gap, hgap⟩ : ∃ b, (Lib.cut s.data.toList dd).2.2 = b := ⟨_, rfl⟩
  have HGAP := Lib.hid hgap
  have HR : Hid (read6 s.data.toList = join6 rx ry gap) := Lib.hid (by rw [read6_join, hrx, hry, hgap])
  have GL := Lib.hid hgl
  generalize hP : ReadPost (read6 s.data.toList) w = P
  have HP := Lib.hid hP
  clear hP hrx hry hgap hcs hll hgl
  go_enter Tryd.func68, Tryd.ntmps68
  go_upto_region 1 with fail
  refine wp_named fun W hW => ?_
  obtain ⟨bk, BW, sW⟩ := box1 (cs := zeroAd.cells) hW
  clear hW
  go_upto_region 2 with (refine wpList_store_blk rfl 35 _ _ rfl W.heap.size 35 zeroAd.cells (Addr.cells ⟨6, zeros⟩) rfl rfl (Blk.new _ _ _) (by first | rfl | rw [csize z6, csize zero_ok]) (szc z6) (one_cells _) ?_; intro W2 P2)
  have b2 := Lib.hid P2.blk
  have hsz := P2.size
  have bk2 := Lib.hid (P2.far (bk.out.alloc _) (by have := sW.out; omega))
  have BW2 := Lib.hid (P2.below (B := w.heap.size) (BW.out.alloc (by rw [sW.out]; omega) _) (by rw [sW.out]; omega) (by rw [World.size_alloc, sW.out]; omega))
  have sW2 : Hid (W.heap.size + 1 ≤ W2.heap.size) := Lib.hid (by simpa using hsz)
  have GL2 := Lib.hid (GL.out.later BW2.out)
  clear P2 hsz
  go_upto_region 3 with (go_at_call 33; (with_reducible refine (CUT.out _ GL2.out).mono ?_); rintro e W3 ⟨rfl, hw3⟩; have HW3 := Lib.hid hw3; clear hw3; rw [HGAP.out])
  have B3 : Hid (Below W2.heap.size W2 W3) := Lib.hid (by obtain ⟨n, hn⟩ := HW3.out; rw [hn]; exact Below.drewN' (Below.refl _ _) n)
  have GL3 := Lib.hid (GL2.out.later B3.out)
  clear HW3
  go_upto_region 4 with (go_at_call 93; (with_reducible refine (CX.out _ GL3.out).mono ?_); rintro e W4 ⟨v4, rfl, hr4, hb4⟩)
  have GL4 := Lib.hid (GL3.out.later hb4)
  go_upto_region 5 with (go_at_call 93; (with_reducible refine (CY.out _ GL4.out).mono ?_); rintro e W5 ⟨v5, rfl, hr5, hb5⟩)
  have S45 : Hid (W2.heap.size ≤ W3.heap.size ∧ W3.heap.size ≤ W4.heap.size ∧ W4.heap.size ≤ W5.heap.size) := Lib.hid ⟨B3.out.size, hb4.size, hb5.size⟩
  have B5 : Hid (Below W2.heap.size W2 W5) := Lib.hid ((B3.out.trans (hb4.mono B3.out.size)).trans (hb5.mono (by have := hb4.size; have := B3.out.size; omega)))
  have RX : Hid (Row enH W5 W3.heap.size 128 v4 (rx.getD [])) := Lib.hid (hr4.later hb5)
  have RY : Hid (Row enH W5 W4.heap.size 128 v5 (ry.getD [])) := Lib.hid hr5
  have b5 := Lib.hid (b2.out.later B5.out (by have := sW2.out; omega))
  have bk5 := Lib.hid (bk2.out.later B5.out (by have := sW2.out; have := sW.out; omega))
  have BW5 := Lib.hid (BW2.out.trans (B5.out.mono (by have := BW2.out.size; omega)))
  clear hr4 hb4 hr5 hb5 b2 bk bk2 BW BW2 GL GL2 GL3 GL4 CUT CX CY HX HYY
  obtain ⟨a4, c4, hv4⟩ := RX.out.slice
  obtain ⟨a5, c5, hv5⟩ := RY.out.slice
  obtain ⟨n4, hn4⟩ : ∃ n, (rx.getD []).length = n := ⟨_, rfl⟩
  obtain ⟨n5, hn5⟩ : ∃ n, (ry.getD []).length = n := ⟨_, rfl⟩
  rw [hn4] at hv4
  rw [hn5] at hv5
  subst hv4
  subst hv5
  have HN4 := Lib.hid hn4
  have HN5 := Lib.hid hn5
  have hb4 : n4 ≤ 4294967297 := by
    rw [← hn4]; cases rx with
    | none => simp
    | some x => exact (HLX.out x rfl).1
  have hb5 : n5 ≤ 4294967297 := by
    rw [← hn5]; cases ry with
    | none => simp
    | some x => exact (HLY.out x rfl).1
  obtain ⟨bx, hbx⟩ : ∃ b, rx.isSome = b := ⟨_, rfl⟩
  obtain ⟨bv, hbv⟩ : ∃ b, ry.isSome = b := ⟨_, rfl⟩
  have HBX := Lib.hid hbx
  have HBV := Lib.hid hbv
  clear hn4 hn5
  rw [hbx, hbv]
  clear hbx hbv
  by_cases hok : bx = true ∧ bv = true ∧ ((gap = true ∧ n4 + n5 ≤ 7) ∨ (gap = false ∧ n4 + n5 = 8))
  · obtain ⟨rfl, rfl, hcase⟩ := hok
    obtain ⟨x, rfl⟩ := Option.isSome_iff_exists.1 HBX.out
    obtain ⟨y, rfl⟩ := Option.isSome_iff_exists.1 HBV.out
    simp only [Option.getD_some] at RX RY HN4 HN5
    have HS : Hid (P = ReadPost (some (ofGroups (fill x y))) w) := Lib.hid (by
      rw [← HP.out, HR.out]
      rw [join6_yes (by rw [HN4.out, HN5.out]; exact hcase)])
    have h8 : n4 + n5 ≤ 8 := by omega
    have hX := (HLX.out x rfl).2
    have hY := (HLY.out y rfl).2
    have HXI := Lib.hid hX
    have HYI := Lib.hid hY
    have hg1 : gap = true → decide ((7 : Int) < (n4 : Int) + (n5 : Int)) = false := fun h => decide_eq_false (by rcases hcase with h' | h'; omega; rw [h'.1] at h; cases h)
    have hg1' : gap = true → decide (7 < n4 + n5) = false := fun h => decide_eq_false (by rcases hcase with h' | h'; omega; rw [h'.1] at h; cases h)
    have hg2 : gap = false → (((n4 : Int) + (n5 : Int)) != 8) = false := fun h => bne_eq_false_iff_eq.2 (by rcases hcase with h' | h'; rw [h'.1] at h; cases h; omega)
    have hg2' : gap = false → ((n4 + n5) != 8) = false := fun h => bne_eq_false_iff_eq.2 (by rcases hcase with h' | h'; rw [h'.1] at h; cases h; omega)
    clear hX hY HR HLX HLY HBX HBV hcase
    cases gap
    all_goals (
      first
      | (replace hg1 := hg1 rfl; replace hg1' := hg1' rfl; clear hg2 hg2')
      | (replace hg2 := hg2 rfl; replace hg2' := hg2' rfl; clear hg1 hg1')
      go_wp2
      go_loopw [64] (fun i wr => ∃ k : Nat, k ≤ n4 ∧ i = .int .i64 k ∧ Put W5 wr W.heap.size 35 (Addr.cells ⟨6, partF (groupB (fill x y)) (2 * (k))⟩)) (fun i _ => n4 - (intOf i).toNat)
      case atStart => exact ⟨0, by omega, rfl, by rw [show 2 * 0 = 0 from rfl, partF_zero]; exact Put.refl b5.out⟩
      case round =>
        obtain ⟨k, hk, rfl, r1⟩ := hrel
        have R1 := Lib.hid r1
        clear r1
        by_cases hlt : k < n4
        · obtain ⟨gq, cq, hv, hq1, hq2, hq3, hq4⟩ := RX.out.some HN4.out (by omega)
          injection hv with hva _ hvc
          subst hva
          subst hvc
          obtain ⟨n, hn⟩ : ∃ n, x.getD k 0 = n := ⟨_, rfl⟩
          have hx : x[k]? = some n := by rw [← hn, List.getD_eq_getElem?_getD, List.getElem?_eq_getElem (by have := HN4.out; omega)]; rfl
          have hnin := HXI.out n (List.mem_of_getElem? hx)
          obtain ⟨hn0, hn1⟩ := hnin
          have hcell : wr.cell? ⟨gq, k, none⟩ = some (.int .u16 n) := put_cell R1.out (hq4.out k n hx) (by have := S45.out; have := sW2.out; omega)
          have HA : Hid (n / 256 = (((groupB (fill x y)) (2 * (k))).toNat : Int)) := Lib.hid (group_hi (by rw [fill_front (by have := HN4.out; omega)]; exact hn) hn0 hn1)
          have HB : Hid (n % 256 = (((groupB (fill x y)) (2 * (k) + 1)).toNat : Int)) := Lib.hid (group_lo (by rw [fill_front (by have := HN4.out; omega)]; exact hn) hn0)
          have f1 := R1.out.blk.frozen (1 + (2 * k))
          have f2 := R1.out.blk.frozen (1 + (2 * k + 1))
          obtain ⟨y1, hy1⟩ : ∃ y, wr.cell? ⟨W.heap.size, 1 + (2 * k), none⟩ = some y := ⟨_, cell_b R1.out.blk (part_ok _ _ _) (2 * k) (by omega)⟩
          obtain ⟨y2, hy2⟩ : ∃ y, wr.cell? ⟨W.heap.size, 1 + (2 * k + 1), none⟩ = some y := ⟨_, cell_b R1.out.blk (part_ok _ _ _) (2 * k + 1) (by omega)⟩
          have HM : Hid (2 * k = 2 * (k)) := Lib.hid (by omega)
          clear hn hx hq4
          go_wp2
          refine ⟨⟨k + 1, by omega, by go_num, ?_⟩, by simp [intOf]; omega⟩
          rw [HM.out]
          have := part_put (by omega) HB.out (part_put (by omega) HA.out R1.out)
          rwa [show 2 * (k) + 1 + 1 = 2 * (k + 1) by omega] at this
        · obtain rfl : k = n4 := by omega
          have R2 : Hid (Put W5 wr W.heap.size 35 (Addr.cells ⟨6, partF (groupB (fill x y)) (2 * (8 - n5 + 0))⟩)) := Lib.hid (by
            rw [← partF_skip (groupB (fill x y)) (2 * k) (2 * (8 - n5 + 0)) (fun i h1 h2 => group_none (fill_mid (by have := HN4.out; omega) (by have := HN5.out; omega) (by have := HN4.out; have := HN5.out; omega))) (by omega)]; exact R1.out)
          obtain ⟨wo, rfl⟩ : ∃ wo : World, wo = wr := ⟨_, rfl⟩
          go_wp2
          go_loopw [86] (fun i wr => ∃ k : Nat, k ≤ n5 ∧ i = .int .i64 k ∧ Put W5 wr W.heap.size 35 (Addr.cells ⟨6, partF (groupB (fill x y)) (2 * (8 - n5 + k))⟩)) (fun i _ => n5 - (intOf i).toNat)
          case atStart => exact ⟨0, by omega, rfl, R2.out⟩
          case round =>
            obtain ⟨k, hk, rfl, r1⟩ := hrel
            have R1 := Lib.hid r1
            clear r1
            by_cases hlt : k < n5
            · obtain ⟨gq, cq, hv, hq1, hq2, hq3, hq4⟩ := RY.out.some HN5.out (by omega)
              injection hv with hva _ hvc
              subst hva
              subst hvc
              obtain ⟨n, hn⟩ : ∃ n, y.getD k 0 = n := ⟨_, rfl⟩
              have hx : y[k]? = some n := by rw [← hn, List.getD_eq_getElem?_getD, List.getElem?_eq_getElem (by have := HN5.out; omega)]; rfl
              have hnin := HYI.out n (List.mem_of_getElem? hx)
              obtain ⟨hn0, hn1⟩ := hnin
              have hcell : wr.cell? ⟨gq, k, none⟩ = some (.int .u16 n) := put_cell R1.out (hq4.out k n hx) (by have := S45.out; have := sW2.out; omega)
              have HA : Hid (n / 256 = (((groupB (fill x y)) (2 * (8 - n5 + k))).toNat : Int)) := Lib.hid (group_hi (by rw [show n5 = y.length from HN5.out.symm, fill_back (by have := HN4.out; have := HN5.out; omega)]; exact hn) hn0 hn1)
              have HB : Hid (n % 256 = (((groupB (fill x y)) (2 * (8 - n5 + k) + 1)).toNat : Int)) := Lib.hid (group_lo (by rw [show n5 = y.length from HN5.out.symm, fill_back (by have := HN4.out; have := HN5.out; omega)]; exact hn) hn0)
              have f1 := R1.out.blk.frozen (1 + (16 - 2 * (n5 - k)))
              have f2 := R1.out.blk.frozen (1 + (16 - 2 * (n5 - k) + 1))
              obtain ⟨y1, hy1⟩ : ∃ y, wr.cell? ⟨W.heap.size, 1 + (16 - 2 * (n5 - k)), none⟩ = some y := ⟨_, cell_b R1.out.blk (part_ok _ _ _) (16 - 2 * (n5 - k)) (by omega)⟩
              obtain ⟨y2, hy2⟩ : ∃ y, wr.cell? ⟨W.heap.size, 1 + (16 - 2 * (n5 - k) + 1), none⟩ = some y := ⟨_, cell_b R1.out.blk (part_ok _ _ _) (16 - 2 * (n5 - k) + 1) (by omega)⟩
              have HM : Hid (16 - 2 * (n5 - k) = 2 * (8 - n5 + k)) := Lib.hid (by omega)
              clear hn hx hq4
              go_wp2
              refine ⟨⟨k + 1, by omega, by go_num, ?_⟩, by simp [intOf]; omega⟩
              rw [HM.out]
              have := part_put (by omega) HB.out (part_put (by omega) HA.out R1.out)
              rwa [show 2 * (8 - n5 + k) + 1 + 1 = 2 * (8 - n5 + (k + 1)) by omega] at this
            · obtain rfl : k = n5 := by omega
              have hok := ofGroups_ok (fill x y)
              have R3 : Hid (Blk wr W.heap.size 35 (ofGroups (fill x y)).cells) := Lib.hid (by
                have := R1.out.blk
                rw [show 2 * (8 - k + k) = 16 by omega] at this; exact this)
              have BZ := Lib.hid (R1.out.far bk5.out (by have := sW.out; omega))
              have SZ := Lib.hid R1.out.size
              go_wp2_with (first | (refine wpList_load_blk rfl 35 _ rfl W.heap.size 35 _ _ rfl R3.out Tryd.underlying35 rfl (by as_aux_lemma => exact szc hok) ?_) | (refine wpList_store_blk rfl 35 _ _ rfl w.heap.size 35 zeroAd.cells (ofGroups (fill x y)).cells rfl rfl BZ.out (by first | rfl | rw [csize hok, csize zero_ok]) (szc hok) (one_cells _) ?_; intro W9 P9))
              rw [HS.out]
              refine bodyPost_ret (v := .tuple #[.agg (ofGroups (fill x y)).cells, .bool true]) (by exact results_cell2 (fn := Tryd.f68) rfl _ _ w.heap.size 35 _ _ rfl P9.blk Tryd.underlying35 rfl (szc hok)) rfl ⟨_, hok, rfl, (fun b h => by injection h), ?_⟩
              exact P9.below (R1.out.below BW5.out (by have := sW.out; omega) BW5.out.size) (Nat.le_refl _) (by have := SZ.out; have := BW5.out.size; omega)
      )
  · have hbad : join6 rx ry gap = none := join6_no (by rw [HBX.out, HBV.out, HN4.out, HN5.out]; exact hok)
    have HS : Hid (P = ReadPost none w) := Lib.hid (by rw [← HP.out, HR.out, hbad])
    have hc : (bx = false) ∨ (bx = true ∧ bv = false) ∨ (bx = true ∧ bv = true ∧ gap = true ∧ 7 < n4 + n5) ∨ (bx = true ∧ bv = true ∧ gap = false ∧ n4 + n5 ≠ 8) := by
      cases bx
      · exact .inl rfl
      · cases bv
        · exact .inr (.inl ⟨rfl, rfl⟩)
        · cases gap
          · exact .inr (.inr (.inr ⟨rfl, rfl, rfl, fun h => hok ⟨rfl, rfl, .inr ⟨rfl, h⟩⟩⟩))
          · exact .inr (.inr (.inl ⟨rfl, rfl, rfl, by
              rcases Nat.lt_or_ge 7 (n4 + n5) with h | h
              · exact h
              · exact absurd ⟨rfl, rfl, .inl ⟨rfl, h⟩⟩ hok⟩))
    clear hok hbad HR HLX HLY
    rcases hc with rfl | ⟨rfl, rfl⟩ | ⟨rfl, rfl, rfl, h7⟩ | ⟨rfl, rfl, rfl, h8⟩
    · go_wp2_with (first | (refine wpList_load_blk rfl 35 _ rfl W.heap.size 35 _ _ rfl b5.out Tryd.underlying35 rfl (by as_aux_lemma => exact szc z6) ?_) | (refine wpList_store_blk rfl 35 _ _ rfl w.heap.size 35 zeroAd.cells (Addr.cells ⟨6, zeros⟩) rfl rfl bk5.out (by first | rfl | rw [csize z6, csize zero_ok]) (szc z6) (one_cells _) ?_; intro W9 P9))
      try clear e7 e7'
      try clear e8 e8'
      all_goals (
        rw [HS.out]
        refine bodyPost_ret (v := .tuple #[.agg (Addr.cells ⟨6, zeros⟩), .bool false]) (by exact results_cell2 (fn := Tryd.f68) rfl _ _ w.heap.size 35 _ _ rfl P9.blk Tryd.underlying35 rfl (szc z6)) rfl ⟨_, z6, rfl, (fun b h => by cases h), P9.below BW5.out (Nat.le_refl _) BW5.out.size⟩)
    · go_wp2_with (first | (refine wpList_load_blk rfl 35 _ rfl W.heap.size 35 _ _ rfl b5.out Tryd.underlying35 rfl (by as_aux_lemma => exact szc z6) ?_) | (refine wpList_store_blk rfl 35 _ _ rfl w.heap.size 35 zeroAd.cells (Addr.cells ⟨6, zeros⟩) rfl rfl bk5.out (by first | rfl | rw [csize z6, csize zero_ok]) (szc z6) (one_cells _) ?_; intro W9 P9))
      try clear e7 e7'
      try clear e8 e8'
      all_goals (
        rw [HS.out]
        refine bodyPost_ret (v := .tuple #[.agg (Addr.cells ⟨6, zeros⟩), .bool false]) (by exact results_cell2 (fn := Tryd.f68) rfl _ _ w.heap.size 35 _ _ rfl P9.blk Tryd.underlying35 rfl (szc z6)) rfl ⟨_, z6, rfl, (fun b h => by cases h), P9.below BW5.out (Nat.le_refl _) BW5.out.size⟩)
    · have e7 : decide ((7 : Int) < (n4 : Int) + (n5 : Int)) = true := decide_eq_true (by omega)
      have e7' : decide (7 < n4 + n5) = true := decide_eq_true h7
      go_wp2_with (first | (refine wpList_load_blk rfl 35 _ rfl W.heap.size 35 _ _ rfl b5.out Tryd.underlying35 rfl (by as_aux_lemma => exact szc z6) ?_) | (refine wpList_store_blk rfl 35 _ _ rfl w.heap.size 35 zeroAd.cells (Addr.cells ⟨6, zeros⟩) rfl rfl bk5.out (by first | rfl | rw [csize z6, csize zero_ok]) (szc z6) (one_cells _) ?_; intro W9 P9))
      try clear e7 e7'
      try clear e8 e8'
      all_goals (
        rw [HS.out]
        refine bodyPost_ret (v := .tuple #[.agg (Addr.cells ⟨6, zeros⟩), .bool false]) (by exact results_cell2 (fn := Tryd.f68) rfl _ _ w.heap.size 35 _ _ rfl P9.blk Tryd.underlying35 rfl (szc z6)) rfl ⟨_, z6, rfl, (fun b h => by cases h), P9.below BW5.out (Nat.le_refl _) BW5.out.size⟩)
    · have e8 : (((n4 : Int) + (n5 : Int)) != 8) = true := bne_iff_ne.2 (by omega)
      have e8' : ((n4 + n5) != 8) = true := bne_iff_ne.2 h8
      clear h8
      go_wp2_with (first | (refine wpList_load_blk rfl 35 _ rfl W.heap.size 35 _ _ rfl b5.out Tryd.underlying35 rfl (by as_aux_lemma => exact szc z6) ?_) | (refine wpList_store_blk rfl 35 _ _ rfl w.heap.size 35 zeroAd.cells (Addr.cells ⟨6, zeros⟩) rfl rfl bk5.out (by first | rfl | rw [csize z6, csize zero_ok]) (szc z6) (one_cells _) ?_; intro W9 P9))
      try clear e7 e7'
      try clear e8 e8'
      all_goals (
        rw [HS.out]
        refine bodyPost_ret (v := .tuple #[.agg (Addr.cells ⟨6, zeros⟩), .bool false]) (by exact results_cell2 (fn := Tryd.f68) rfl _ _ w.heap.size 35 _ _ rfl P9.blk Tryd.underlying35 rfl (szc z6)) rfl ⟨_, z6, rfl, (fun b h => by cases h), P9.below BW5.out (Nat.le_refl _) BW5.out.size⟩)
end Go.Proofs.YtpaplobjmmpliaaDoor.Ad
