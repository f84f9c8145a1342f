/- Contract of tape.hex. Conditions: none beyond those that the theorem states. -/
import Derived.Test.YtpciggnanlflkaaGreatDoorXd
namespace Go.Proofs.YtpciggnanlflkaaGreatDoor.Ad
set_option linter.unusedVariables false
set_option linter.unusedSimpArgs false
open Go.RowKit Go.Maps W
def digsB : List UInt8 := [48, 49, 50, 51, 52, 53, 54, 55, 56, 57, 97, 98, 99, 100, 101, 102]
/-- The value of a digit. -/
def hexD (c : UInt8) : Option Nat := if 48 ≤ c.toNat ∧ c.toNat ≤ 57 then some (c.toNat - 48) else if 97 ≤ c.toNat ∧ c.toNat ≤ 102 then some (c.toNat - 87) else none
def hexI (o : Option Nat) : Int := match o with
  | some d => d
  | none => -1
def pairsV : List UInt8 → Option (List UInt8)
  | [] => some []
  | [_] => none
  | a :: b :: l => match hexD a, hexD b with
    | some x, some y => (pairsV l).map (UInt8.ofNat (16 * x + y) :: ·)
    | _, _ => none
/-- What hex reads. -/
def hexV (l : List UInt8) : Option (List UInt8) := match l with
  | 58 :: l => pairsV l
  | _ => none
theorem index_fin : ∀ n : Fin 256, Lib.indexByte digsB (UInt8.ofNat n.val) = hexI (hexD (UInt8.ofNat n.val)) := by decide +kernel
theorem index_hex (c : UInt8) : Lib.indexByte digsB c = hexI (hexD c) := by
  have h := index_fin ⟨c.toNat, c.toNat_lt⟩
  simpa using h
theorem hexD_lt {c : UInt8} {d : Nat} (h : hexD c = some d) : d < 16 := by
  unfold hexD at h
  split at h
  · injection h with h; omega
  · split at h
    · injection h with h; omega
    · cases h
theorem prefix_colon (l : List UInt8) : (Lib.hasPrefix l [58] = true ∧ ∃ m, l = 58 :: m ∧ Lib.trimPrefix l [58] = m) ∨ (Lib.hasPrefix l [58] = false ∧ ∀ m, l ≠ 58 :: m) := by
  cases l with
  | nil => exact .inr ⟨by decide, fun m h => by cases h⟩
  | cons c m =>
    by_cases h : c = 58
    · subst h
      exact .inl ⟨by simp [Lib.hasPrefix], m, rfl, by simp [Lib.trimPrefix, Lib.hasPrefix]⟩
    · exact .inr ⟨by simp [Lib.hasPrefix, List.isPrefixOf]; exact fun e => h e.symm, fun m' h' => by injection h' with h1 _; exact h h1⟩
theorem pairs_odd : ∀ l : List UInt8, l.length % 2 = 1 → pairsV l = none
  | [], h => by simp at h
  | [_], _ => rfl
  | a :: b :: l, h => by
    have ih := pairs_odd l (by simp only [List.length_cons] at h; omega)
    rw [pairsV, ih]
    cases hexD a <;> cases hexD b <;> rfl
theorem pairs_app : ∀ (l m : List UInt8), l.length % 2 = 0 → pairsV (l ++ m) = (pairsV l).bind fun x => (pairsV m).map (x ++ ·)
  | [], m, _ => by simp [pairsV]
  | [_], m, h => by simp at h
  | a :: b :: l, m, h => by
    have ih := pairs_app l m (by simp only [List.length_cons] at h; omega)
    simp only [List.cons_append, pairsV, ih]
    cases hexD a <;> cases hexD b <;> simp
    cases pairsV l <;> simp
    cases pairsV m <;> simp
theorem index_const (c : UInt8) (o : Option Nat) (ho : hexD c = o) (w : World) : Calls Tryz.prog 85 #[.string ⟨#[48, 49, 50, 51, 52, 53, 54, 55, 56, 57, 97, 98, 99, 100, 101, 102]⟩, .int .u8 (c.toNat : Int)] w fun e w' => e = .returned (.int .i64 (hexI o)) ∧ Below w.heap.size w w' := by
  have h := index_calls digsB c _ rfl w
  rw [index_hex, ho] at h
  exact h
theorem pairs_two {m : List UInt8} {i : Nat} {acc : List UInt8} {a b : UInt8} (hi : i % 2 = 0) (hil : i + 2 ≤ m.length) (hacc : pairsV (m.take i) = some acc) (ha : m[i]? = some a) (hb : m[i + 1]? = some b) :
    pairsV (m.take (i + 2)) = match hexD a, hexD b with
      | some x, some y => some (acc ++ [UInt8.ofNat (16 * x + y)])
      | _, _ => none := by
  have h1 : m.take (i + 2) = m.take i ++ [a, b] := by
    rw [show i + 2 = i + 1 + 1 from rfl, List.take_add_one, hb, List.take_add_one, ha]; simp
  rw [h1, pairs_app _ _ (by rw [List.length_take]; omega), hacc, pairsV]
  generalize hexD a = x
  generalize hexD b = y
  cases x <;> cases y <;> rfl
theorem pairs_cut {m : List UInt8} {i : Nat} (hi : i % 2 = 0) (hil : i ≤ m.length) (h : pairsV (m.take i) = none) : pairsV m = none := by
  rw [← List.take_append_drop i m, pairs_app _ _ (by rw [List.length_take]; omega), h]; rfl
set_option maxRecDepth 100000 in
set_option maxHeartbeats 4000000 in
theorem hex_calls (l : List UInt8) (hl : l.length ≤ 4294967296) (w : World) : Calls Tryz.prog 71 #[.string (S l)] w fun e w' =>
    ∃ v, e = .returned (.tuple #[v, .bool (hexV l).isSome]) ∧ w'.ownsRow w.heap.size 5 1 v ((hexV l).getD []).length (Lib.byteCells ((hexV l).getD [])) ∧ Below w.heap.size w w' := by
  obtain ⟨i0, hi, hz0, hz1, hz2⟩ := info_parts (show (Tryz.prog.info? 5).map (fun i => (i.zero, i.size, i.bytes)) = some (some (.int .u8 0), 1, 1) by kernel_rfl)
  have HC := Lib.hid (prefix_calls l [58] w)
  rcases prefix_colon l with ⟨h1, m, rfl, h2⟩ | ⟨h1, h2⟩
  · rw [h1, h2] at HC
    have hml : m.length ≤ 4294967296 := by simp only [List.length_cons] at hl; omega
    obtain ⟨n, hn⟩ : ∃ n, m.length = n := ⟨_, rfl⟩
    have HN := Lib.hid hn
    obtain ⟨q, hq⟩ : ∃ q, S m = q := ⟨_, rfl⟩
    have HQ := Lib.hid hq
    have hqs : q.size = n := by rw [← hq, S_size, hn]
    rw [hq] at HC
    obtain ⟨q0, hq0⟩ : ∃ q, S (58 :: m) = q := ⟨_, rfl⟩
    rw [hq0] at HC ⊢
    have HV : Hid (hexV (58 :: m) = pairsV m) := Lib.hid rfl
    rw [hn] at hml
    clear hl h1 h2 hn hq hq0
    by_cases hodd : n % 2 = 1
    · have HR : Hid (hexV (58 :: m) = none) := Lib.hid (by rw [HV.out]; exact pairs_odd m (by rw [HN.out]; exact hodd))
      have e1 : ((n : Int) % 2 != 0) = true := bne_iff_ne.2 (by omega)
      have e1' : (n % 2 != 0) = true := bne_iff_ne.2 (by omega)
      clear hodd
      go_enter Tryz.func71, Tryz.ntmps71
      go_wp2_with (go_at_call 51; refine HC.out.mono ?_; rintro e W ⟨rfl, hB⟩)
      go_ret2
      exact ⟨.slice none 0 0, by rw [HR.out]; rfl, by rw [HR.out]; exact World.ownsRow_nil _ _ _ _, hB⟩
    · have e1 : ((n : Int) % 2 != 0) = false := by rw [bne_eq_false_iff_eq]; omega
      have e1' : (n % 2 != 0) = false := by rw [bne_eq_false_iff_eq]; omega
      have HEV : Hid (n % 2 = 0) := Lib.hid (by omega)
      clear hodd
      go_enter Tryz.func71, Tryz.ntmps71
      go_upto_region 6 with (go_at_call 51; refine HC.out.mono ?_; rintro e W ⟨rfl, hB⟩)
      have HB := Lib.hid hB
      clear hB HC
      go_loopw [5, 6, 7, 8] (fun u5 u6 _ _ wr => ∃ (i : Nat) (v : Value) (acc : List UInt8), u6 = .int .i64 i ∧ u5 = v ∧ i ≤ n ∧ Hid (i % 2 = 0) ∧ Hid (pairsV (m.take i) = some acc) ∧ Hid (acc.length ≤ i) ∧ Hid (wr.ownsRow w.heap.size 5 1 v acc.length (Lib.byteCells acc)) ∧ Hid (Below w.heap.size w wr)) (fun _ u6 _ _ _ => n - (intOf u6).toNat)
      case atStart => exact ⟨0, _, [], rfl, rfl, Nat.zero_le _, Lib.hid rfl, Lib.hid (by simp [pairsV]), Lib.hid (Nat.le_refl _), Lib.hid (World.ownsRow_nil _ _ _ _), HB⟩
      case round =>
        clear HB
        obtain ⟨i, v, acc, rfl, rfl, hin, HI2, HAC, HAL, HO, HB⟩ := hrel
        by_cases hlt : i < n
        · have x1 : decide ((i : Int) < (n : Int)) = true := decide_eq_true (by omega)
          have x1' : decide (i < n) = true := decide_eq_true hlt
          have hlt2 : i + 1 < n := by have := HI2.out; have := HEV.out; omega
          have hq1 : i < q.size := by omega
          obtain ⟨i1, hi1⟩ : ∃ k, i + 1 = k := ⟨_, rfl⟩
          have hi1' : (i : Int) + 1 = (i1 : Int) := by omega
          have hq2 : i1 < q.size := by omega
          have x2 : decide ((i1 : Int) < (n : Int)) = true := decide_eq_true (by omega)
          have x2' : decide (i1 < n) = true := decide_eq_true (by omega)
          have x2n : i1 < n := by omega
          obtain ⟨ox, hox⟩ : ∃ o, hexD q[i] = o := ⟨_, rfl⟩
          obtain ⟨oy, hoy⟩ : ∃ o, hexD q[i1] = o := ⟨_, rfl⟩
          have HA : Hid (m[i]? = some q[i]) := Lib.hid (by
            have : i < m.length := by have := HN.out; omega
            rw [List.getElem?_eq_getElem this]
            congr 1
            have h3 := HQ.out
            subst h3
            rfl)
          have HA2 : Hid (m[i1]? = some q[i1]) := Lib.hid (by
            have : i1 < m.length := by have := HN.out; omega
            rw [List.getElem?_eq_getElem this]
            congr 1
            have h3 := HQ.out
            subst h3
            rfl)
          have HST : Hid (pairsV (m.take (i + 2)) = match ox, oy with
            | some x, some y => some (acc ++ [UInt8.ofNat (16 * x + y)])
            | _, _ => none) := Lib.hid (by rw [pairs_two HI2.out (by have := HN.out; omega) HAC.out HA.out (by rw [hi1]; exact HA2.out), hox, hoy])
          have HOX : Hid (∀ d, ox = some d → d < 16) := Lib.hid fun d h => hexD_lt (hox.trans h)
          have HOY : Hid (∀ d, oy = some d → d < 16) := Lib.hid fun d h => hexD_lt (hoy.trans h)
          have HC1 := Lib.hid (fun z : Later wr => index_const q[i] ox hox z.val)
          have HC2 := Lib.hid (fun z : Later wr => index_const q[i1] oy hoy z.val)
          clear hox hoy hi1
          go_upto_region 8 with fail
          refine region_later (by kernel_rfl) (by kernel_rfl) ?_
          repeat (first | go_big_quiet_skip | (go_big_quiet_want; first | (go_big_quiet_op; first | go_big_quiet_on | go_big_quiet_call ((go_at_call 85; first | (with_reducible exact calls_later (HC1.out _)) | (with_reducible exact calls_later (HC2.out _)))))))
          refine wpQuiet_nil ?_
          intro z hz
          have HB := Lib.hid (HB.out.trans (hz.mono HB.out.size))
          have HO := Lib.hid (own_later HO.out hz)
          clear hz HC1 HC2
          have hbad : ∀ (P : Prop), (ox = none ∨ oy = none) → (hexV (58 :: m) = none) := fun _ h => by
            rw [HV.out]
            refine pairs_cut (i := i + 2) (by have := HI2.out; omega) (by have := HN.out; omega) ?_
            rw [HST.out]
            rcases h with h | h <;> rw [h] <;> cases ox <;> rfl
          cases ox with
          | none =>
            have HR : Hid (hexV (58 :: m) = none) := Lib.hid (hbad True (.inl rfl))
            have hx0 : hexI none = -1 := rfl
            clear hbad
            go_wp2
            go_ret2
            exact ⟨.slice none 0 0, by rw [HR.out]; rfl, by rw [HR.out]; exact World.ownsRow_nil _ _ _ _, HB.out⟩
          | some x =>
            have hx0 : hexI (some x) = (x : Int) := rfl
            have hx1 : decide ((x : Int) < 0) = false := decide_eq_false (by omega)
            have hx16 := HOX.out x rfl
            cases oy with
            | none =>
              have HR : Hid (hexV (58 :: m) = none) := Lib.hid (hbad True (.inr rfl))
              have hy0 : hexI none = -1 := rfl
              clear hbad
              go_wp2
              go_ret2
              exact ⟨.slice none 0 0, by rw [HR.out]; rfl, by rw [HR.out]; exact World.ownsRow_nil _ _ _ _, HB.out⟩
            | some y =>
              have hy0 : hexI (some y) = (y : Int) := rfl
              have hy1 : decide ((y : Int) < 0) = false := decide_eq_false (by omega)
              have hy16 := HOY.out y rfl
              clear hbad
              have HBJ : Hid (bits .or .i64 ((x : Int) * 16) (y : Int) % 256 = (((UInt8.ofNat (16 * x + y)).toNat : Nat) : Int)) := Lib.hid (by
                rw [bits_join .i64 63 (by decide) (fun k h0 h1 => wrap_small k h0 (by omega)) 4 ((x : Int) * 16) (y : Int) (by omega) (by omega) (by omega) (by omega) (by omega) (by omega)]
                simp only [UInt8.toNat_ofNat']
                omega)
              have HZ : Hid (w.heap.size ≤ z.heap.size) := Lib.hid HB.out.size
              go_upto_region 11 with fail
              go_wp2_with (at_builtin; go_loud (rw [HBJ.out]); go_loud (refine wpList_append_two rfl _ _ 26 rfl 5 i0 _ 1 1 Tryz.underlying26 hi hz0 hz1 hz2 (by rfl) (by omega) w.heap.size _ acc.length _ rfl (World.ownsRow.alloc HO.out _) ⟨z.heap.size, 0, none⟩ 1 1 [.int .u8 (((UInt8.ofNat (16 * x + y)).toNat : Nat) : Int)] rfl rfl (news_b _ _) (fun u hu => by rw [List.mem_singleton.1 hu]; rfl) (by omega) (by have := HAL.out; unfold maxLen; omega) (by have := HAL.out; omega) (by have := HZ.out; simp; omega) ?_); intro g cap w1 hown hgr hlt')
              have HBA : Hid (Below w.heap.size w (z.alloc (.cells #[.int .u8 (((UInt8.ofNat (16 * x + y)).toNat : Nat) : Int)] 5))) := Lib.hid (HB.out.trans ((Below.refl _ _).alloc HZ.out _))
              have HB1 := Lib.hid (HBA.out.trans ((fr_row hgr).below (fun k hk e => by have := own_ge HO.out k e; omega) (HBA.out.size)))
              have hl1 : acc.length + 1 = (acc ++ [UInt8.ofNat (16 * x + y)]).length := by simp
              have hc1 : Lib.byteCells acc ++ [.int .u8 (((UInt8.ofNat (16 * x + y)).toNat : Nat) : Int)] = Lib.byteCells (acc ++ [UInt8.ofNat (16 * x + y)]) := by simp [Lib.byteCells]
              rw [hc1] at hown
              have HOX2 : Hid (w1.ownsRow w.heap.size 5 1 (.slice (some ⟨g, 0, none⟩) (acc.length + 1) cap) (acc ++ [UInt8.ofNat (16 * x + y)]).length (Lib.byteCells (acc ++ [UInt8.ofNat (16 * x + y)]))) := Lib.hid (by rw [← hl1]; exact hown)
              exact ⟨⟨i + 2, _, acc ++ [UInt8.ofNat (16 * x + y)], by go_num, rfl, by omega, Lib.hid (by have := HI2.out; omega), Lib.hid HST.out, Lib.hid (by have := HAL.out; simp; omega), HOX2, HB1⟩, by simp [intOf]; omega⟩
        · have x1 : decide ((i : Int) < (n : Int)) = false := decide_eq_false (by omega)
          have x1' : decide (i < n) = false := decide_eq_false hlt
          have HR : Hid (hexV (58 :: m) = some acc) := Lib.hid (by rw [HV.out, ← HAC.out, List.take_of_length_le (by have := HN.out; omega)])
          go_wp2
          go_ret2
          exact ⟨_, by rw [HR.out]; rfl, by rw [HR.out]; exact HO.out, HB.out⟩
  · rw [h1] at HC
    have HR : Hid (hexV l = none) := Lib.hid (by
      unfold hexV
      split
      · exact absurd rfl (h2 _)
      · rfl)
    obtain ⟨q0, hq0⟩ : ∃ q, S l = q := ⟨_, rfl⟩
    rw [hq0] at HC ⊢
    clear hl h1 h2 hq0
    go_enter Tryz.func71, Tryz.ntmps71
    go_wp2_with (go_at_call 51; refine HC.out.mono ?_; rintro e W ⟨rfl, hB⟩)
    go_ret2
    exact ⟨.slice none 0 0, by rw [HR.out]; rfl, by rw [HR.out]; exact World.ownsRow_nil _ _ _ _, hB⟩
end Go.Proofs.YtpciggnanlflkaaGreatDoor.Ad
