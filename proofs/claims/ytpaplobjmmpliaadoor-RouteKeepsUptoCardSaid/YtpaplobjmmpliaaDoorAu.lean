/- Contracts of the reference's groups, fromGroups. Conditions: a text is shorter than 2^32. -/
import Derived.Test.YtpaplobjmmpliaaDoorAs
import Derived.Test.YtpaplobjmmpliaaDoorAt
namespace Go.Proofs.YtpaplobjmmpliaaDoor.Ad
set_option linter.unusedVariables false
set_option linter.unusedSimpArgs false
open Go.RowKit W
def enI (n : Int) : Value := .int .i64 n
theorem el_int : Elem Tryd.prog 3 := ⟨.int .i64 0, 8, by kernel_rfl, rfl, by decide⟩
theorem empty_of {s : ByteArray} (h : s.size = 0) : s = ⟨#[]⟩ := by
  obtain ⟨b⟩ := s
  have : b.size = 0 := h
  rw [Array.size_eq_zero_iff.1 this]
theorem nums_step {ps : List (List UInt8)} {k : Nat} {done : List Int} (h : nums ps = (nums (ps.drop k)).map (done ++ ·)) (hk : k < ps.length) :
    (numV (ps.getD k []) 16 4 < 0 → nums ps = none) ∧ (¬ numV (ps.getD k []) 16 4 < 0 → nums ps = (nums (ps.drop (k + 1))).map ((done ++ [numV (ps.getD k []) 16 4]) ++ ·)) := by
  have hd : ps.drop k = ps.getD k [] :: ps.drop (k + 1) := by rw [List.drop_eq_getElem_cons hk, List.getD_eq_getElem?_getD, List.getElem?_eq_getElem hk]; rfl
  constructor
  · intro hn; rw [h, hd, nums, if_pos hn]; rfl
  · intro hn; rw [h, hd, nums, if_neg hn, Option.map_map]
    congr 1
    funext x; simp
theorem nums_end {ps : List (List UInt8)} {k : Nat} {done : List Int} (h : nums ps = (nums (ps.drop k)).map (done ++ ·)) (hk : ps.length ≤ k) : nums ps = some done := by
  rw [h, List.drop_eq_nil_of_le hk]; simp [nums]
def GroupsPost (r : Option (List Int)) (w : World) (e : Ending) (w' : World) : Prop := ∃ v, e = .returned (.tuple #[v, .bool r.isSome]) ∧ Row enI w' w.heap.size 3 v (r.getD []) ∧ Below w.heap.size w w'
theorem cutsB_getD (c : UInt8) (s : ByteArray) (k : Nat) (hk : k < (cutsB c s).length) : ∃ p : ByteArray, (cutsB c s)[k]? = some p ∧ p.data.toList = (cuts c s.data.toList).getD k [] ∧ p.size ≤ s.size := by
  refine ⟨(cutsB c s)[k], List.getElem?_eq_getElem hk, ?_, ?_⟩
  · rw [List.getD_eq_getElem?_getD, List.getElem?_eq_getElem (by rw [cutsB_len] at hk; exact hk)]; simp [cutsB]
  · have h1 : k < (cuts c s.data.toList).length := by rw [cutsB_len] at hk; exact hk
    have := cuts_short c s.data.toList ((cuts c s.data.toList)[k]) (List.getElem_mem _)
    have e : (cutsB c s)[k].size = ((cuts c s.data.toList)[k]).length := by simp [cutsB, ByteArray.size]
    rw [e]; simpa using this
set_option maxRecDepth 100000 in
set_option maxHeartbeats 2000000 in
theorem rgroups_calls (s : ByteArray) (hs : s.size ≤ 4294967296) (w : World) : Calls Tryd.prog 94 #[.string s] w (GroupsPost (groupsV s.data.toList) w) := by
  by_cases h0 : s.size = 0
  · have hl : s.data.toList = [] := List.eq_nil_of_length_eq_zero (by simpa using h0)
    have he' : s.toList = [] := by rw [ByteArray.toList_eq]; exact hl
    have he : s.toList.isEmpty = true := by rw [he']; rfl
    have HG : Hid (GroupsPost (groupsV s.data.toList) w (.returned (.tuple #[.slice none 0 0, .bool true])) w) := Lib.hid (by unfold groupsV; rw [if_pos hl]; exact ⟨_, rfl, Row.nil _ _ _ _, Below.refl _ _⟩)
    generalize hP : GroupsPost (groupsV s.data.toList) w = P at HG ⊢
    clear hP h0 hl
    go_enter Tryd.func94, Tryd.ntmps94
    go_wp2
    exact HG.out
  · have hl : s.data.toList ≠ [] := fun h => h0 (by have := congrArg List.length h; simpa using this)
    have he : s.toList.isEmpty = false := by
      rw [ByteArray.toList_eq]; cases h : s.data.toList with
      | nil => exact absurd h hl
      | cons => rfl
    have he' : s.toList ≠ [] := by rw [ByteArray.toList_eq]; exact hl
    have HR : Hid (groupsV s.data.toList = nums (cuts 58 s.data.toList)) := Lib.hid (if_neg hl)
    clear h0 hl
    generalize hP : GroupsPost (groupsV s.data.toList) w = P
    have HP := Lib.hid hP
    clear hP
    go_enter Tryd.func94, Tryd.ntmps94
    go_upto_region 4 with (go_at_call 96; refine (pieces_calls s 58 hs _).mono ?_; rintro e W1 ⟨v, rfl, hr1, hb1⟩)
    have hne : cutsB 58 s ≠ [] := fun h => cuts_ne 58 s.data.toList (by have := congrArg List.length h; rw [cutsB_len] at this; exact List.eq_nil_of_length_eq_zero this)
    rcases hr1.cells with ⟨_, h⟩ | ⟨g, c, rfl, hg, hgl, hcap, hcells⟩
    · exact absurd h hne
    have HC := Lib.hid hcells
    have HB1 := Lib.hid hb1
    have HGL := Lib.hid hgl
    have HS1 := Lib.hid hb1.size
    have hlen : (cutsB 58 s).length ≤ 4294967297 := by
      rw [cutsB_len]; have := cuts_le 58 s.data.toList; have h2 : s.data.toList.length = s.size := by simp
      omega
    obtain ⟨N, hN⟩ : ∃ N, (cutsB 58 s).length = N := ⟨_, rfl⟩
    rw [hN] at hlen hcap
    have HN := Lib.hid hN
    clear hr1 hb1 hne hg hgl hcells
    rw [hN]
    clear hN
    go_wp2
    go_loopw [5, 6] (fun v i wr => ∃ (k : Nat) (done : List Int), k ≤ N ∧ i = .int .i64 k ∧ done.length = k ∧ Row enI wr W1.heap.size 3 v done ∧ Below W1.heap.size W1 wr ∧ nums (cuts 58 s.data.toList) = (nums ((cuts 58 s.data.toList).drop k)).map (done ++ ·)) (fun _ i _ => N - (intOf i).toNat)
    case atStart => exact ⟨0, [], by omega, rfl, rfl, Row.nil _ _ _ _, Below.refl _ _, by simp⟩
    case round =>
      obtain ⟨k, done, hk, rfl, hdl, r1, r2, r3⟩ := hrel
      have RO := Lib.hid r1
      have RB := Lib.hid r2
      have RN := Lib.hid r3
      have HS := Lib.hid r2.size
      have hn : done.length ≤ 1099511627776 := by omega
      have HDL := Lib.hid hdl
      clear r1 r2 r3 hdl
      by_cases hlt : k < N
      · obtain ⟨p, hp, hpl, hps'⟩ := cutsB_getD 58 s k (by rw [HN.out]; exact hlt)
        have hck : wr.cell? ⟨g, k, none⟩ = some (.string p) := (RB.out.cell (by exact HGL.out)).trans (HC.out k p hp)
        have hps : p.size ≤ 140737488351232 := by omega
        obtain ⟨q, hq⟩ : ∃ q, numV p.data.toList 16 4 = q := ⟨_, rfl⟩
        have hst := nums_step RN.out (by rw [← cutsB_len, HN.out]; exact hlt)
        rw [← hpl, hq] at hst
        obtain ⟨hst1, hst2⟩ := hst
        have HQ := Lib.hid hq
        clear hp hpl hps' hq
        by_cases hneg : q < 0
        · have e1 : decide (q < 0) = true := decide_eq_true hneg
          have HNN : Hid (GroupsPost (groupsV s.data.toList) w = GroupsPost none w) := Lib.hid (by rw [HR.out, hst1 hneg])
          clear hst1 hst2 hneg
          go_wp2_with (go_at_call 97; refine (number16_calls p hps _).mono ?_; rintro e w' ⟨rfl, rfl⟩; rw [HQ.out])
          rw [← HP.out, HNN.out]
          exact ⟨_, rfl, Row.nil _ _ _ _, HB1.out.trans (RB.out.mono HS1.out)⟩
        · have e1 : decide (q < 0) = false := decide_eq_false hneg
          have hst2' := Lib.hid (hst2 hneg)
          clear hst1 hst2 hneg
          go_wp2_with (first | (go_at_call 97; refine (number16_calls p hps _).mono ?_; rintro e w' ⟨rfl, rfl⟩; rw [HQ.out]) | (at_builtin; refine append_one (enc := enI) (fun _ => rfl) 52 Tryd.underlying52 el_int rfl _ _ rfl rfl (RO.out.alloc _) _ wr.heap.size rfl (cell_new _ _ _) hn (by simp; exact Nat.le_succ_of_le HS.out) ?_; intro v' w2 hr2 hg2))
          have RB2 := Row.below (RO.out.alloc _) hg2 (RB.out.alloc HS.out _) (Nat.le_refl _) (by simp; exact Nat.le_succ_of_le HS.out)
          exact ⟨⟨k + 1, _, by omega, by go_num, by simp; exact HDL.out, hr2, RB2, hst2'.out⟩, by simp [intOf]; omega⟩
      · obtain rfl : k = N := by omega
        have HNN : Hid (GroupsPost (groupsV s.data.toList) w = GroupsPost (some done) w) := Lib.hid (by rw [HR.out, nums_end RN.out (by rw [← cutsB_len, HN.out]; exact Nat.le_refl _)])
        go_wp2
        rw [← HP.out, HNN.out]
        exact ⟨_, rfl, RO.out.mono HS1.out, HB1.out.trans (RB.out.mono HS1.out)⟩
theorem byte_div (n : Int) (h0 : 0 ≤ n) (h1 : n ≤ 65535) : ((UInt8.ofNat (n / 256).toNat).toNat : Int) = n / 256 := by
  rw [UInt8.toNat_ofNat', Nat.mod_eq_of_lt (by omega)]; omega
theorem byte_mod (n : Int) (h0 : 0 ≤ n) : ((UInt8.ofNat (n % 256).toNat).toNat : Int) = n % 256 := by
  rw [UInt8.toNat_ofNat', Nat.mod_eq_of_lt (by omega)]; omega
/-- One byte more in the block of an address. -/
theorem part_round {wr : World} {g m : Nat} {v y : Int} {f : Nat → UInt8} (hm : m < 16) (hy : y = ((f m).toNat : Int)) (r : Blk wr g 35 (Addr.cells ⟨v, partF f m⟩)) :
    Blk (wr.setCell ⟨g, 1 + m, none⟩ (.int .u8 y)) g 35 (Addr.cells ⟨v, partF f (m + 1)⟩) := by
  have := r.set_ (1 + m) (.int .u8 y)
  rwa [hy, cells_set, partF_set _ _ hm, ← hy] at this
theorem part_ok (v : Int) (f : Nat → UInt8) (m : Nat) : Addr.ok ⟨v, partF f m⟩ := partF_len f m
set_option maxRecDepth 100000 in
set_option maxHeartbeats 2000000 in
theorem fromGroups_calls (gs : List Int) (g0 c0 : Nat) (hlen : gs.length = 8) (hin : Hid (∀ n ∈ gs, 0 ≤ n ∧ n ≤ 65535)) (w : World) (hc : Hid (∀ i x, gs[i]? = some x → w.cell? ⟨g0, i, none⟩ = some (enI x))) (hg : g0 < w.heap.size) :
    Calls Tryd.prog 95 #[.slice (some ⟨g0, 0, none⟩) 8 c0] w fun e w' => e = .returned (.agg (ofGroups gs).cells) ∧ Below w.heap.size w w' := by
  have z0 := zero_ok
  have z6 : Addr.ok ⟨6, zeros⟩ := rfl
  have HG := Lib.hid hg
  have HL := Lib.hid hlen
  have hZ : Hid (Addr.cells ⟨6, partF (groupB gs) 0⟩ = Addr.cells ⟨6, zeros⟩) := Lib.hid (by rw [partF_zero])
  clear hg hlen
  go_enter Tryd.func95, Tryd.ntmps95
  go_upto_region 1 with fail
  refine wp_named fun W hW => ?_
  obtain ⟨bk, BW, sW⟩ := box1 (cs := zeroAd.cells) hW
  clear hW
  go_upto_region 2 with (refine wpList_store_blk rfl 35 _ _ rfl W.heap.size 35 zeroAd.cells (Addr.cells ⟨6, zeros⟩) rfl rfl (Blk.new _ _ _) (by rw [csize z6, csize zero_ok]) (szc z6) (one_cells _) ?_; intro W2 P2)
  have b2 := Lib.hid P2.blk
  have hsz := P2.size
  have bk2 := Lib.hid (P2.far (bk.out.alloc _) (by have := sW.out; omega))
  have BW2 := Lib.hid (P2.below (B := w.heap.size) (BW.out.alloc (by rw [sW.out]; omega) _) (by rw [sW.out]; omega) (by rw [World.size_alloc, sW.out]; omega))
  have sW2 : Hid (W.heap.size + 1 ≤ W2.heap.size) := Lib.hid (by simpa using hsz)
  clear P2 hsz
  go_wp2
  go_loopw [4] (fun i wr => ∃ k : Nat, k ≤ 8 ∧ i = .int .i64 k ∧ Blk wr W.heap.size 35 (Addr.cells ⟨6, partF (groupB gs) (2 * k)⟩) ∧ Blk wr w.heap.size 35 zeroAd.cells ∧ Below w.heap.size w wr ∧ W.heap.size + 1 ≤ wr.heap.size) (fun i _ => 8 - (intOf i).toNat)
  case atStart => exact ⟨0, by omega, rfl, by rw [hZ.out]; exact b2.out, bk2.out, BW2.out, sW2.out⟩
  case round =>
    obtain ⟨k, hk, rfl, r1, r2, r3, r4⟩ := hrel
    have R1 := Lib.hid r1
    have R2 := Lib.hid r2
    have R3 := Lib.hid r3
    have R4 := Lib.hid r4
    clear r1 r2 r3 r4 bk BW b2 bk2 BW2 sW2 hZ
    by_cases hlt : k < 8
    · have hx : gs[k]? = some (gs.getD k 0) := by rw [List.getD_eq_getElem?_getD, List.getElem?_eq_getElem (by rw [HL.out]; exact hlt)]; rfl
      obtain ⟨n, hn⟩ : ∃ n, gs.getD k 0 = n := ⟨_, rfl⟩
      rw [hn] at hx
      have hnin := hin.out n (List.mem_of_getElem? hx)
      obtain ⟨hn0, hn1⟩ := hnin
      have hcell : wr.cell? ⟨g0, k, none⟩ = some (.int .i64 n) := (R3.out.cell (by exact HG.out)).trans (hc.out k n hx)
      have hg1 : Hid (((groupB gs (2 * k)).toNat : Int) = n / 256) := Lib.hid (by unfold groupB; rw [if_pos (by omega), show 2 * k / 2 = k by omega, hn]; exact byte_div n hn0 hn1)
      have hg2 : Hid (((groupB gs (2 * k + 1)).toNat : Int) = n % 256) := Lib.hid (by unfold groupB; rw [if_neg (by omega), show (2 * k + 1) / 2 = k by omega, hn]; exact byte_mod n hn0)
      have c1 := cell_b R1.out (part_ok _ _ _) (2 * k) (by omega)
      have f1 := R1.out.frozen (1 + 2 * k)
      have hsome : ∃ y, wr.cell? ⟨W.heap.size, 1 + 2 * k, none⟩ = some y := ⟨_, c1⟩
      obtain ⟨y1, hy1⟩ := hsome
      clear hx hn c1
      go_upto_region 6 with fail
      refine wp_named fun wr2 h2 => ?_
      have R1' : Hid (Blk wr2 W.heap.size 35 (Addr.cells ⟨6, partF (groupB gs) (2 * k + 1)⟩)) := Lib.hid (by rw [h2]; exact part_round (by omega) hg1.out.symm R1.out)
      have R2' : Hid (Blk wr2 w.heap.size 35 zeroAd.cells) := Lib.hid (by rw [h2]; exact R2.out.far (by have := sW.out; simp; omega) _)
      have R3' : Hid (Below w.heap.size w wr2) := Lib.hid (by rw [h2]; exact R3.out.setCell (by have := sW.out; simp; omega) _)
      have R4' : Hid (W.heap.size + 1 ≤ wr2.heap.size) := Lib.hid (by rw [h2]; have := R4.out; simpa using this)
      have hcell2 : wr2.cell? ⟨g0, k, none⟩ = some (.int .i64 n) := (R3'.out.cell (by exact HG.out)).trans ((R3.out.cell (by exact HG.out)).symm.trans hcell)
      have f2 := R1'.out.frozen (1 + (2 * k + 1))
      obtain ⟨y2, hy2⟩ : ∃ y, wr2.cell? ⟨W.heap.size, 1 + (2 * k + 1), none⟩ = some y := ⟨_, cell_b R1'.out (part_ok _ _ _) (2 * k + 1) (by omega)⟩
      clear h2 hcell f1 hy1
      go_wp2
      refine ⟨⟨k + 1, by omega, by go_num, ?_, R2'.out.far (by have := sW.out; simp; omega) _, R3'.out.setCell (by have := sW.out; simp; omega) _, by have := R4'.out; simpa using this⟩, by simp [intOf]; omega⟩
      have := part_round (wr := wr2) (by omega) hg2.out.symm R1'.out
      rwa [show 2 * k + 1 + 1 = 2 * (k + 1) by omega] at this
    · obtain rfl : k = 8 := by omega
      have hok : (ofGroups gs).ok := part_ok _ _ _
      go_wp2_with (first | (refine wpList_load_blk rfl 35 _ rfl W.heap.size 35 _ _ rfl R1.out Tryd.underlying35 rfl (by as_aux_lemma => exact szc (part_ok _ _ _)) ?_) | (refine wpList_store_blk rfl 35 _ _ rfl w.heap.size 35 zeroAd.cells (Addr.cells ⟨6, partF (groupB gs) (2 * 8)⟩) rfl rfl R2.out (by rw [csize (part_ok 6 (groupB gs) (2 * 8)), csize zero_ok]) (szc (part_ok 6 (groupB gs) (2 * 8))) (one_cells _) ?_; intro W5 P5))
      refine bodyPost_ret (v := .agg (ofGroups gs).cells) (by exact results_cell_row (fn := Tryd.f95) rfl _ _ w.heap.size 35 _ (0, 0) _ rfl P5.blk Tryd.underlying35 rfl (szc hok)) rfl ⟨rfl, ?_⟩
      exact P5.below R3.out (Nat.le_refl _) (by have := R4.out; have := sW.out; omega)
end Go.Proofs.YtpaplobjmmpliaaDoor.Ad
