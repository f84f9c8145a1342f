/- Contracts of route.number and route.line. Conditions: a text is shorter than 2^32 - 15; the library tables hold what its text lays. -/
import Derived.Test.YtpaplobjmmpliaaDoorRl
namespace Go.Proofs.YtpaplobjmmpliaaDoor.Ad
set_option linter.unusedVariables false
set_option linter.unusedSimpArgs false
open Go.RowKit W
theorem numQ_none {l : List UInt8} (h : l.length < 1 ∨ 3 < l.length ∨ (1 < l.length ∧ (l.getD 0 0).toNat = 48)) : numQ l = none := if_pos h
theorem numQ_some {l : List UInt8} (h : ¬ (l.length < 1 ∨ 3 < l.length ∨ (1 < l.length ∧ (l.getD 0 0).toNat = 48))) : numQ l = foldN l 0 := if_neg h
set_option maxRecDepth 100000 in
set_option maxHeartbeats 4000000 in
theorem num_calls (s : ByteArray) (hs : s.size ≤ 140737488351232) (w : World) : Calls Tryd.prog 54 #[.string s] w fun e w' => e = .returned (.tuple #[.int .i64 (ansN (numQ s.data.toList)), .bool (numQ s.data.toList).isSome]) ∧ w = w' := by
  have hl : s.data.toList.length = s.size := by simp
  by_cases h0 : s.size < 1
  · have e0 : decide ((s.size : Int) < 1) = true := decide_eq_true (by omega)
    have e0' : decide (s.size < 1) = true := decide_eq_true h0
    have HR : Hid (numQ s.data.toList = none) := Lib.hid (numQ_none (.inl (by omega)))
    clear h0 hl
    go_enter Tryd.func54, Tryd.ntmps54
    go_wp2
    go_ret2
    exact ⟨by rw [HR.out]; rfl, rfl⟩
  · have e0 : decide ((s.size : Int) < 1) = false := decide_eq_false (by omega)
    have e0' : decide (s.size < 1) = false := decide_eq_false h0
    by_cases h1 : 3 < s.size
    · have e1 : decide ((3 : Int) < (s.size : Int)) = true := decide_eq_true (by omega)
      have e1' : decide (3 < s.size) = true := decide_eq_true h1
      have HR : Hid (numQ s.data.toList = none) := Lib.hid (numQ_none (.inr (.inl (by omega))))
      clear h0 h1 hl
      go_enter Tryd.func54, Tryd.ntmps54
      go_wp2
      go_ret2
      exact ⟨by rw [HR.out]; rfl, rfl⟩
    · have e1 : decide ((3 : Int) < (s.size : Int)) = false := decide_eq_false (by omega)
      have e1' : decide (3 < s.size) = false := decide_eq_false h1
      have hm : s.size ≤ 3 := by omega
      have hpos : 0 < s.size := by omega
      have hb0 : s.data.toList.getD 0 0 = s[0] := byte_toList s 0 hpos
      by_cases h2 : 1 < s.size
      · have e2 : decide ((1 : Int) < (s.size : Int)) = true := decide_eq_true (by omega)
        have e2' : decide (1 < s.size) = true := decide_eq_true h2
        by_cases h3 : s[0].toNat = 48
        · have e3 : ((s[0].toNat : Int) == 48) = true := beq_iff_eq.2 (by omega)
          have HR : Hid (numQ s.data.toList = none) := Lib.hid (numQ_none (.inr (.inr ⟨by omega, by rw [hb0]; exact h3⟩)))
          clear h0 h1 hl h3 hb0
          go_enter Tryd.func54, Tryd.ntmps54
          go_wp2
          go_ret2
          exact ⟨by rw [HR.out]; rfl, rfl⟩
        · have e3 : ((s[0].toNat : Int) == 48) = false := beq_eq_false_iff_ne.2 (by omega)
          have HR : Hid (numQ s.data.toList = foldN s.data.toList 0) := Lib.hid (numQ_some (by rw [hl, hb0]; omega))
          clear h0 h1 hl h3 hb0 h2
          go_enter Tryd.func54, Tryd.ntmps54
          go_wp2
          go_loop [4, 5, 26] (fun n _ i => ∃ (k : Nat) (acc : Int), k ≤ s.size ∧ i = .int .i64 k ∧ n = .int .i64 acc ∧ 0 ≤ acc ∧ acc < 10 ^ k ∧ foldN s.data.toList 0 = foldN (s.data.toList.drop k) acc) (fun _ _ i => s.size - (intOf i).toNat)
          case atStart => exact ⟨0, 0, by omega, rfl, rfl, by omega, by omega, rfl⟩
          case round =>
            obtain ⟨k, acc, hk, rfl, rfl, ha0, ha1, hf⟩ := hrel
            by_cases hlt : k < s.size
            · have e9 : decide ((k : Int) < (s.size : Int)) = true := decide_eq_true (by omega)
              have e9' : decide (k < s.size) = true := decide_eq_true hlt
              obtain ⟨d, hd⟩ : ∃ d : Int, (s[k].toNat : Int) = d := ⟨_, rfl⟩
              have hb1 : d ≤ 255 := by have := s[k].toNat_lt; omega
              have hb0 : 0 ≤ d := by omega
              have HF : Hid (foldN s.data.toList 0 = if d < 48 ∨ 57 < d then none else foldN (s.data.toList.drop (k + 1)) (acc * 10 + (d - 48))) := Lib.hid (by rw [hf, drop_byte s k hlt, foldN, hd])
              have hp : (10 : Int) ^ k ≤ 100 := by
                have : (10 : Nat) ^ k ≤ 10 ^ 2 := Nat.pow_le_pow_right (by omega) (by omega)
                have h2 : ((10 ^ k : Nat) : Int) ≤ ((10 ^ 2 : Nat) : Int) := by omega
                simpa using h2
              have HA : Hid (acc < 10 ^ k) := Lib.hid ha1
              have ha2 : acc < 100 := by omega
              clear hf ha1 hp
              by_cases h3 : d < 48
              · have e3 : decide (d < 48) = true := decide_eq_true h3
                have HS : Hid (numQ s.data.toList = none) := Lib.hid (by rw [HR.out, HF.out, if_pos (.inl h3)])
                clear h3
                go_wp2
                go_ret2
                exact ⟨by rw [HS.out]; rfl, rfl⟩
              · have e3 : decide (d < 48) = false := decide_eq_false h3
                by_cases h4 : 57 < d
                · have e4 : decide (57 < d) = true := decide_eq_true h4
                  have HS : Hid (numQ s.data.toList = none) := Lib.hid (by rw [HR.out, HF.out, if_pos (.inr h4)])
                  clear h4
                  go_wp2
                  go_ret2
                  exact ⟨by rw [HS.out]; rfl, rfl⟩
                · have e4 : decide (57 < d) = false := decide_eq_false h4
                  have HS : Hid (foldN s.data.toList 0 = foldN (s.data.toList.drop (k + 1)) (acc * 10 + (d - 48))) := Lib.hid (by rw [HF.out, if_neg (by omega)])
                  have hd1 : 48 ≤ d := by omega
                  have hd2 : d ≤ 57 := by omega
                  clear h3 h4
                  go_wp2
                  go_round
                  case rel => exact ⟨k + 1, acc * 10 + (d - 48), by omega, by go_num, by go_num, by omega, by rw [Int.pow_succ]; have := HA.out; omega, HS.out⟩
                  case measure => simp [intOf]; omega
            · have HS : Hid (numQ s.data.toList = some acc) := Lib.hid (by rw [HR.out, hf, List.drop_eq_nil_of_le (by simp; omega)]; rfl)
              have e9 : decide ((k : Int) < (s.size : Int)) = false := decide_eq_false (by omega)
              have e9' : decide (k < s.size) = false := decide_eq_false hlt
              clear hf ha1
              go_wp2
              go_ret2
              exact ⟨by rw [HS.out]; rfl, rfl⟩
      · have e2 : decide ((1 : Int) < (s.size : Int)) = false := decide_eq_false (by omega)
        have e2' : decide (1 < s.size) = false := decide_eq_false h2
        have HR : Hid (numQ s.data.toList = foldN s.data.toList 0) := Lib.hid (numQ_some (by rw [hl]; omega))
        clear h0 h1 hl hb0 h2
        go_enter Tryd.func54, Tryd.ntmps54
        go_wp2
        go_loop [4, 5, 26] (fun n _ i => ∃ (k : Nat) (acc : Int), k ≤ s.size ∧ i = .int .i64 k ∧ n = .int .i64 acc ∧ 0 ≤ acc ∧ acc < 10 ^ k ∧ foldN s.data.toList 0 = foldN (s.data.toList.drop k) acc) (fun _ _ i => s.size - (intOf i).toNat)
        case atStart => exact ⟨0, 0, by omega, rfl, rfl, by omega, by omega, rfl⟩
        case round =>
          obtain ⟨k, acc, hk, rfl, rfl, ha0, ha1, hf⟩ := hrel
          by_cases hlt : k < s.size
          · have e9 : decide ((k : Int) < (s.size : Int)) = true := decide_eq_true (by omega)
            have e9' : decide (k < s.size) = true := decide_eq_true hlt
            obtain ⟨d, hd⟩ : ∃ d : Int, (s[k].toNat : Int) = d := ⟨_, rfl⟩
            have hb1 : d ≤ 255 := by have := s[k].toNat_lt; omega
            have hb0 : 0 ≤ d := by omega
            have HF : Hid (foldN s.data.toList 0 = if d < 48 ∨ 57 < d then none else foldN (s.data.toList.drop (k + 1)) (acc * 10 + (d - 48))) := Lib.hid (by rw [hf, drop_byte s k hlt, foldN, hd])
            have hp : (10 : Int) ^ k ≤ 100 := by
              have : (10 : Nat) ^ k ≤ 10 ^ 2 := Nat.pow_le_pow_right (by omega) (by omega)
              have h2 : ((10 ^ k : Nat) : Int) ≤ ((10 ^ 2 : Nat) : Int) := by omega
              simpa using h2
            have HA : Hid (acc < 10 ^ k) := Lib.hid ha1
            have ha2 : acc < 100 := by omega
            clear hf ha1 hp
            by_cases h3 : d < 48
            · have e3 : decide (d < 48) = true := decide_eq_true h3
              have HS : Hid (numQ s.data.toList = none) := Lib.hid (by rw [HR.out, HF.out, if_pos (.inl h3)])
              clear h3
              go_wp2
              go_ret2
              exact ⟨by rw [HS.out]; rfl, rfl⟩
            · have e3 : decide (d < 48) = false := decide_eq_false h3
              by_cases h4 : 57 < d
              · have e4 : decide (57 < d) = true := decide_eq_true h4
                have HS : Hid (numQ s.data.toList = none) := Lib.hid (by rw [HR.out, HF.out, if_pos (.inr h4)])
                clear h4
                go_wp2
                go_ret2
                exact ⟨by rw [HS.out]; rfl, rfl⟩
              · have e4 : decide (57 < d) = false := decide_eq_false h4
                have HS : Hid (foldN s.data.toList 0 = foldN (s.data.toList.drop (k + 1)) (acc * 10 + (d - 48))) := Lib.hid (by rw [HF.out, if_neg (by omega)])
                have hd1 : 48 ≤ d := by omega
                have hd2 : d ≤ 57 := by omega
                clear h3 h4
                go_wp2
                go_round
                case rel => exact ⟨k + 1, acc * 10 + (d - 48), by omega, by go_num, by go_num, by omega, by rw [Int.pow_succ]; have := HA.out; omega, HS.out⟩
                case measure => simp [intOf]; omega
          · have HS : Hid (numQ s.data.toList = some acc) := Lib.hid (by rw [HR.out, hf, List.drop_eq_nil_of_le (by simp; omega)]; rfl)
            have e9 : decide ((k : Int) < (s.size : Int)) = false := decide_eq_false (by omega)
            have e9' : decide (k < s.size) = false := decide_eq_false hlt
            clear hf ha1
            go_wp2
            go_ret2
            exact ⟨by rw [HS.out]; rfl, rfl⟩
def S (l : List UInt8) : ByteArray := ⟨l.toArray⟩
theorem S_size (l : List UInt8) : (S l).size = l.length := by show l.toArray.size = _; simp
theorem S_list (l : List UInt8) : (S l).data.toList = l := by simp [S]
theorem wpList_build3 {P : Program} {ops : Array Oper} {rest : List Oper} {o : Oper} {a : Act} {w : World} {Q : Exit → Act → World → Prop} (hg : o.guard = none) (t : TypeId) (i j k : Nat) (x y z : Operand) (ho : o.op = .build t #[(i, x), (j, y), (k, z)])
    (u v s : Value) (hx : a.eval x = u) (hy : a.eval y = v) (hz : a.eval z = s) (cells : Array Value) (hb : P.built t [(i, u), (j, v), (k, s)] = some cells)
    (h : wpList P ops Q rest (a.put o.dst (.agg cells)) w) : wpList P ops Q (o :: rest) a w :=
  wpList_build_as hg t _ ho [(i, u), (j, v), (k, s)] (by simp [hx, hy, hz]) cells hb h
theorem built_rt {m : Addr} (h : m.ok) (b k : Int) : Tryd.prog.built 44 [(0, .agg m.cells), (1, .int .i64 b), (2, .int .i64 k)] = some (Rt.cells ⟨m, b, k⟩) := by
  unfold Addr.ok at h
  unfold Rt.cells Rt.vals Addr.vals Addr.cells
  obtain ⟨x0, x1, x2, x3, x4, x5, x6, x7, x8, x9, x10, x11, x12, x13, x14, x15, hx⟩ := len16 h
  simp only [hx]
  kernel_rfl
set_option maxRecDepth 100000 in
set_option maxHeartbeats 4000000 in
theorem line_of (s a1 a2 c1 c2 : ByteArray) (b1 b2 o1 o2 res : Bool) (m : Addr) (er n1 n2 : Int) (hm : m.ok) (HRES : Hid ((b1 && b2 && (er == 0) && o1 && o2) = res))
    (HC1 : Hid (∀ w, Gl w → Calls Tryd.prog 33 #[.string s, .string ⟨#[47]⟩] w fun e w' => e = .returned (.tuple #[.string a1, .string a2, .bool b1]) ∧ Below w.heap.size w w')) (HC2 : Hid (∀ w, Gl w → Calls Tryd.prog 33 #[.string a2, .string ⟨#[32]⟩] w fun e w' => e = .returned (.tuple #[.string c1, .string c2, .bool b2]) ∧ Below w.heap.size w w'))
    (HP : Hid (∀ w, Gl w → Calls Tryd.prog 53 #[.string a1] w fun e w' => e = .returned (.tuple #[.agg m.cells, .int .i64 er]) ∧ Below w.heap.size w w')) (HN1 : Hid (∀ w, Calls Tryd.prog 54 #[.string c1] w fun e w' => e = .returned (.tuple #[.int .i64 n1, .bool o1]) ∧ Below w.heap.size w w')) (HN2 : Hid (∀ w, Calls Tryd.prog 54 #[.string c2] w fun e w' => e = .returned (.tuple #[.int .i64 n2, .bool o2]) ∧ Below w.heap.size w w'))
    (w : World) (hg : Gl w) : Calls Tryd.prog 34 #[.string s] w fun e w' => e = .returned (.tuple #[.agg (Rt.cells ⟨m, n1, n2⟩), .bool res]) ∧ Below w.heap.size w w' := by
  have HG := Lib.hid hg
  have z0 := zero_ok
  have hr : (⟨m, n1, n2⟩ : Rt).ok := hm
  clear hg
  go_enter Tryd.func34, Tryd.ntmps34
  go_upto_region 1 with fail
  refine wp_named fun W hW => ?_
  obtain ⟨bk, BW, sW⟩ := box1 (cs := zeroRt.cells) hW
  have GL := Lib.hid (HG.out.later BW.out)
  clear hW sW
  go_upto_region 2 with (go_at_call 33; refine (HC1.out _ GL.out).mono ?_; rintro e W2 ⟨rfl, hB2⟩)
  have BW := keep BW hB2
  have bk := Lib.hid (bk.out.later hB2 bk.out.lt)
  have GL := Lib.hid (GL.out.later hB2)
  clear hB2
  go_upto_region 3 with (go_at_call 33; refine (HC2.out _ GL.out).mono ?_; rintro e W3 ⟨rfl, hB3⟩)
  have BW := keep BW hB3
  have bk := Lib.hid (bk.out.later hB3 bk.out.lt)
  have GL := Lib.hid (GL.out.later hB3)
  clear hB3
  go_upto_region 4 with (first | (go_at_call 53; refine (HP.out _ GL.out).mono ?_; rintro e W4 ⟨rfl, hB4⟩) | (refine wpList_store_blk rfl 35 _ _ rfl W4.heap.size 35 zeroAd.cells m.cells rfl rfl (Blk.new _ _ _) (by first | rfl | rw [csize hm, csize zero_ok]) (szc hm) (one_cells _) ?_; intro W5 P5))
  obtain ⟨B5, b6, s5, t5⟩ := call_store hB4 P5
  have BW := keep BW B5.out
  have bk := Lib.hid (bk.out.later B5.out bk.out.lt)
  have GL := Lib.hid (GL.out.later B5.out)
  obtain ⟨G2, hG2⟩ : ∃ g, W4.heap.size = g := ⟨_, rfl⟩
  rw [hG2] at b6 ⊢
  clear hB4 P5 B5 s5 t5 hG2
  go_upto_region 5 with (go_at_call 54; refine (HN1.out _).mono ?_; rintro e W6 ⟨rfl, hB6⟩)
  have b6 := Lib.hid (b6.out.later hB6 b6.out.lt)
  have BW := keep BW hB6
  have bk := Lib.hid (bk.out.later hB6 bk.out.lt)
  have GL := Lib.hid (GL.out.later hB6)
  clear hB6
  go_upto_region 6 with (go_at_call 54; refine (HN2.out _).mono ?_; rintro e W7 ⟨rfl, hB7⟩)
  have b6 := Lib.hid (b6.out.later hB7 b6.out.lt)
  have BW := keep BW hB7
  have bk := Lib.hid (bk.out.later hB7 bk.out.lt)
  have GL := Lib.hid (GL.out.later hB7)
  clear hB7
  cases b1
  · have HF : Hid (res = false) := Lib.hid (by rw [← HRES.out]; simp)
    clear HRES
    go_wp2_with (first | (refine wpList_load_blk rfl 35 _ rfl G2 35 _ _ rfl b6.out Tryd.underlying35 rfl (by as_aux_lemma => exact szc hm) ?_) | (refine wpList_build3 rfl 44 0 1 2 _ _ _ rfl (.agg m.cells) (.int .i64 n1) (.int .i64 n2) rfl rfl rfl (Rt.cells ⟨m, n1, n2⟩) (built_rt hm n1 n2) ?_) | (refine wpList_store_blk rfl 44 _ _ rfl w.heap.size 44 zeroRt.cells (Rt.cells ⟨m, n1, n2⟩) rfl rfl bk.out (by rw [rcs hr, rcs zeroRt_ok]) (rszc hr) (rone _) ?_; intro W9 P9))
    refine bodyPost_ret (v := .tuple #[.agg (Rt.cells ⟨m, n1, n2⟩), .bool false]) (by exact results_cell2 (fn := Tryd.f34) rfl _ _ w.heap.size 44 _ _ rfl P9.blk Tryd.underlying44 rfl (rszc hr)) rfl ⟨by rw [HF.out], P9.below BW.out (Nat.le_refl _) BW.out.size⟩
  cases b2
  · have HF : Hid (res = false) := Lib.hid (by rw [← HRES.out]; simp)
    clear HRES
    go_wp2_with (first | (refine wpList_load_blk rfl 35 _ rfl G2 35 _ _ rfl b6.out Tryd.underlying35 rfl (by as_aux_lemma => exact szc hm) ?_) | (refine wpList_build3 rfl 44 0 1 2 _ _ _ rfl (.agg m.cells) (.int .i64 n1) (.int .i64 n2) rfl rfl rfl (Rt.cells ⟨m, n1, n2⟩) (built_rt hm n1 n2) ?_) | (refine wpList_store_blk rfl 44 _ _ rfl w.heap.size 44 zeroRt.cells (Rt.cells ⟨m, n1, n2⟩) rfl rfl bk.out (by rw [rcs hr, rcs zeroRt_ok]) (rszc hr) (rone _) ?_; intro W9 P9))
    refine bodyPost_ret (v := .tuple #[.agg (Rt.cells ⟨m, n1, n2⟩), .bool false]) (by exact results_cell2 (fn := Tryd.f34) rfl _ _ w.heap.size 44 _ _ rfl P9.blk Tryd.underlying44 rfl (rszc hr)) rfl ⟨by rw [HF.out], P9.below BW.out (Nat.le_refl _) BW.out.size⟩
  by_cases he : er = 0
  · have f1 : (er == 0) = true := beq_iff_eq.2 he
    rw [f1] at HRES
    clear he
    cases o1
    · have HF : Hid (res = false) := Lib.hid (by rw [← HRES.out]; simp)
      clear HRES
      go_wp2_with (first | (refine wpList_load_blk rfl 35 _ rfl G2 35 _ _ rfl b6.out Tryd.underlying35 rfl (by as_aux_lemma => exact szc hm) ?_) | (refine wpList_build3 rfl 44 0 1 2 _ _ _ rfl (.agg m.cells) (.int .i64 n1) (.int .i64 n2) rfl rfl rfl (Rt.cells ⟨m, n1, n2⟩) (built_rt hm n1 n2) ?_) | (refine wpList_store_blk rfl 44 _ _ rfl w.heap.size 44 zeroRt.cells (Rt.cells ⟨m, n1, n2⟩) rfl rfl bk.out (by rw [rcs hr, rcs zeroRt_ok]) (rszc hr) (rone _) ?_; intro W9 P9))
      refine bodyPost_ret (v := .tuple #[.agg (Rt.cells ⟨m, n1, n2⟩), .bool false]) (by exact results_cell2 (fn := Tryd.f34) rfl _ _ w.heap.size 44 _ _ rfl P9.blk Tryd.underlying44 rfl (rszc hr)) rfl ⟨by rw [HF.out], P9.below BW.out (Nat.le_refl _) BW.out.size⟩
    cases o2
    · have HF : Hid (res = false) := Lib.hid (by rw [← HRES.out]; simp)
      clear HRES
      go_wp2_with (first | (refine wpList_load_blk rfl 35 _ rfl G2 35 _ _ rfl b6.out Tryd.underlying35 rfl (by as_aux_lemma => exact szc hm) ?_) | (refine wpList_build3 rfl 44 0 1 2 _ _ _ rfl (.agg m.cells) (.int .i64 n1) (.int .i64 n2) rfl rfl rfl (Rt.cells ⟨m, n1, n2⟩) (built_rt hm n1 n2) ?_) | (refine wpList_store_blk rfl 44 _ _ rfl w.heap.size 44 zeroRt.cells (Rt.cells ⟨m, n1, n2⟩) rfl rfl bk.out (by rw [rcs hr, rcs zeroRt_ok]) (rszc hr) (rone _) ?_; intro W9 P9))
      refine bodyPost_ret (v := .tuple #[.agg (Rt.cells ⟨m, n1, n2⟩), .bool false]) (by exact results_cell2 (fn := Tryd.f34) rfl _ _ w.heap.size 44 _ _ rfl P9.blk Tryd.underlying44 rfl (rszc hr)) rfl ⟨by rw [HF.out], P9.below BW.out (Nat.le_refl _) BW.out.size⟩
    have HF : Hid (res = true) := Lib.hid (by rw [← HRES.out]; simp)
    clear HRES
    go_wp2_with (first | (refine wpList_load_blk rfl 35 _ rfl G2 35 _ _ rfl b6.out Tryd.underlying35 rfl (by as_aux_lemma => exact szc hm) ?_) | (refine wpList_build3 rfl 44 0 1 2 _ _ _ rfl (.agg m.cells) (.int .i64 n1) (.int .i64 n2) rfl rfl rfl (Rt.cells ⟨m, n1, n2⟩) (built_rt hm n1 n2) ?_) | (refine wpList_store_blk rfl 44 _ _ rfl w.heap.size 44 zeroRt.cells (Rt.cells ⟨m, n1, n2⟩) rfl rfl bk.out (by rw [rcs hr, rcs zeroRt_ok]) (rszc hr) (rone _) ?_; intro W9 P9))
    refine bodyPost_ret (v := .tuple #[.agg (Rt.cells ⟨m, n1, n2⟩), .bool true]) (by exact results_cell2 (fn := Tryd.f34) rfl _ _ w.heap.size 44 _ _ rfl P9.blk Tryd.underlying44 rfl (rszc hr)) rfl ⟨by rw [HF.out], P9.below BW.out (Nat.le_refl _) BW.out.size⟩
  · have f1 : (er == 0) = false := beq_eq_false_iff_ne.2 he
    rw [f1] at HRES
    clear he
    have HF : Hid (res = false) := Lib.hid (by rw [← HRES.out]; simp)
    clear HRES
    go_wp2_with (first | (refine wpList_load_blk rfl 35 _ rfl G2 35 _ _ rfl b6.out Tryd.underlying35 rfl (by as_aux_lemma => exact szc hm) ?_) | (refine wpList_build3 rfl 44 0 1 2 _ _ _ rfl (.agg m.cells) (.int .i64 n1) (.int .i64 n2) rfl rfl rfl (Rt.cells ⟨m, n1, n2⟩) (built_rt hm n1 n2) ?_) | (refine wpList_store_blk rfl 44 _ _ rfl w.heap.size 44 zeroRt.cells (Rt.cells ⟨m, n1, n2⟩) rfl rfl bk.out (by rw [rcs hr, rcs zeroRt_ok]) (rszc hr) (rone _) ?_; intro W9 P9))
    refine bodyPost_ret (v := .tuple #[.agg (Rt.cells ⟨m, n1, n2⟩), .bool false]) (by exact results_cell2 (fn := Tryd.f34) rfl _ _ w.heap.size 44 _ _ rfl P9.blk Tryd.underlying44 rfl (rszc hr)) rfl ⟨by rw [HF.out], P9.below BW.out (Nat.le_refl _) BW.out.size⟩
end Go.Proofs.YtpaplobjmmpliaaDoor.Ad
