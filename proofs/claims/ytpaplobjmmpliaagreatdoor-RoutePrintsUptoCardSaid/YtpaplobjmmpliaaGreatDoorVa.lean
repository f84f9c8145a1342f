/- The reference's digits and Print, the walk of RoutePrints. Conditions: addresses have sixteen bytes, numbers lie within 64 bits, at most 1048576 routes; the library tables hold what its text lays. -/
import Derived.Test.YtpaplobjmmpliaaGreatDoorP5
import Derived.Test.YtpaplobjmmpliaaGreatDoorP3
import Derived.Test.YtpaplobjmmpliaaGreatDoorRr
import Derived.Test.YtpaplobjmmpliaaGreatDoorRi
namespace Go.Proofs.YtpaplobjmmpliaaGreatDoor.Ad
set_option linter.unusedVariables false
set_option linter.unusedSimpArgs false
open Go.RowKit Go.Maps W
theorem conv_one {x : UInt8} {y : Int} (hy : y = (x.toNat : Int)) (w W2 : World) (h2 : w.alloc (.cells #[.int .u8 y] 5) = W2) : (convert 30 9 (.slice (some ⟨w.heap.size, 0, none⟩) 1 1)).run Tryz.prog W2 = .ok (.string (S [x])) W2 := by
  subst hy
  have hb : Blk W2 w.heap.size 5 #[.int .u8 (x.toNat : Int)] := by rw [← h2]; exact Blk.new _ _ _
  exact Lib.run_convert_whole (P := Tryz.prog) W2 30 5 9 Tryz.underlying30 Tryz.underlying5 Tryz.underlying9 w.heap.size 0 (S [x]) (one_byte hb) 1
theorem dig_ten : ∀ k : Fin 10, ((digC k.val).toNat : Int) = 48 + (k.val : Int) := by decide +kernel
set_option maxRecDepth 100000 in
set_option maxHeartbeats 4000000 in
theorem digits_calls : ∀ n : Nat, n < 65536 → ∀ w, Calls Tryz.prog 17 #[.int .i64 n] w fun e w' => e = .returned (.string (S (textB 10 n))) ∧ Below w.heap.size w w' := by
  intro n
  induction n using Nat.strongRecOn with
  | _ n ih =>
    intro hn w
    have hr : ((n : Int).tmod 10) = ((n % 10 : Nat) : Int) := by rw [Int.tmod_eq_emod_of_nonneg (by omega)]; simp
    have hq : ((n : Int).tdiv 10) = ((n / 10 : Nat) : Int) := by rw [Int.tdiv_eq_ediv_of_nonneg (by omega)]; simp
    have hm := Nat.mod_lt n (show 0 < 10 by omega)
    have hd : (48 + ((n % 10 : Nat) : Int)) = ((digC (n % 10)).toNat : Int) := (dig_ten ⟨n % 10, hm⟩).symm
    by_cases hlt : n < 10
    · have e1 : decide ((n : Int) < 10) = true := decide_eq_true (by omega)
      have e1' : decide (n < 10) = true := decide_eq_true hlt
      have HT : Hid (textB 10 n = [digC (n % 10)]) := Lib.hid (by rw [textB_one hlt, Nat.mod_eq_of_lt hlt])
      clear hlt ih
      go_enter Tryz.func17, Tryz.ntmps17
      go_wp2
      generalize hW2 : w.alloc (Obj.cells #[_] 5) = W2
      rw [conv_one (x := digC (n % 10)) (by omega) w W2 hW2]
      have HB2 : Hid (Below w.heap.size w W2) := Lib.hid (by rw [← hW2]; exact (Below.refl _ _).alloc (Nat.le_refl _) _)
      clear hW2
      go_wp2
      go_ret
      exact ⟨by rw [HT.out]; rfl, HB2.out⟩
    · have e1 : decide ((n : Int) < 10) = false := decide_eq_false (by omega)
      have e1' : decide (n < 10) = false := decide_eq_false hlt
      have IH := Lib.hid (ih (n / 10) (Nat.div_lt_self (by omega) (by omega)) (by omega))
      rw [show ((n / 10 : Nat) : Int) = (n : Int) / 10 by simp] at IH
      have HT : Hid (textB 10 n = textB 10 (n / 10) ++ [digC (n % 10)]) := Lib.hid (textB_more (by omega) (by omega))
      have HLE := textB_le 10 (n / 10)
      have z1 : ¬ 9223372036854775807 < (S (textB 10 (n / 10))).size + (S [digC (n % 10)]).size := by rw [S_size, S_size]; simp; omega
      have z2 : ¬ 9223372036854775807 < (S (textB 10 (n / 10))).size + 1 := by rw [S_size]; omega
      have happ := S_app (textB 10 (n / 10)) [digC (n % 10)]
      clear ih hlt
      go_enter Tryz.func17, Tryz.ntmps17
      go_wp2
      generalize hW2 : w.alloc (Obj.cells #[_] 5) = W2
      rw [conv_one (x := digC (n % 10)) (by omega) w W2 hW2]
      have HB2 : Hid (Below w.heap.size w W2) := Lib.hid (by rw [← hW2]; exact (Below.refl _ _).alloc (Nat.le_refl _) _)
      clear hW2
      go_wp2_with (go_at_call 17; refine (IH.out _).mono ?_; rintro e W3 ⟨rfl, hB3⟩)
      go_ret
      exact ⟨by rw [HT.out]; try rfl, (keep HB2 hB3).out⟩
theorem dig_is {y : Int} {n : Nat} (hn : n < 65536) (hy : (n : Int) = y) (w : World) : Calls Tryz.prog 17 #[.int .i64 y] w fun e w' => e = .returned (.string (S (textB 10 n))) ∧ Below w.heap.size w w' := by
  subst hy; exact digits_calls n hn w
theorem rline_S (X : List UInt8) (r : Rt) : (((((S X ++ S (printV r.net)) ++ ⟨#[47]⟩) ++ S (textB 10 r.bits.toNat)) ++ ⟨#[32]⟩) ++ S (textB 10 r.link.toNat)) ++ ⟨#[10]⟩ = S (X ++ (lineT r ++ [10])) := by
  rw [show (⟨#[47]⟩ : ByteArray) = S [47] from rfl, show (⟨#[32]⟩ : ByteArray) = S [32] from rfl, show (⟨#[10]⟩ : ByteArray) = S [10] from rfl]
  simp only [S_app]
  unfold lineT
  simp
set_option maxRecDepth 100000 in
set_option maxHeartbeats 4000000 in
theorem rprintl_calls {l : List Rt} (hl : ∀ r ∈ l, r.wf) (p : Option Go.Addr) (c : Nat) (w : World) (hp : At w p l) : Calls Tryz.prog 6 #[.slice p l.length c] w fun e w' =>
    e = .returned (.tuple #[.string (S (printR l).1), .int .i64 (printR l).2]) ∧ Below w.heap.size w w' := by
  have HM := Lib.hid (rmay_calls hl p c w hp)
  cases hm : mayV l
  · rw [hm] at HM
    have e : printR l = ([], 1) := by unfold printR; rw [hm]; rfl
    rw [e]
    clear hp hl hm e
    go_enter Tryz.func6, Tryz.ntmps6
    go_wp2_with (go_at_call 14; refine HM.out.mono ?_; rintro e W1 ⟨rfl, hB⟩)
    go_ret2
    exact ⟨rfl, hB⟩
  · rw [hm] at HM
    have e : printR l = (linesT (sortV l), 0) := by unfold printR; rw [hm]; rfl
    rw [e]
    have HS := Lib.hid (fun w' (hb : Below w.heap.size w w') => rall_calls hl hm p c w' (hp.later hb))
    have HW := Lib.hid (sortV_wf hl)
    have HO := Lib.hid (fun r (hr : r ∈ sortV l) => ((sort_all (fun r hr => (hl r hr).ok) hm).1 r hr).2)
    have hsl := sortV_len l
    have h32 := may_32 hm
    clear hp hl hm e
    obtain ⟨s, hs⟩ : ∃ s, sortV l = s := ⟨_, rfl⟩
    rw [hs] at HS HW HO hsl ⊢
    obtain ⟨n, hn⟩ : ∃ n, l.length = n := ⟨_, rfl⟩
    rw [hn] at HM HS hsl h32 ⊢
    have HN := Lib.hid hsl
    have hb32 : n ≤ 32 := h32
    clear hs hn hsl h32
    go_enter Tryz.func6, Tryz.ntmps6
    go_upto_region 5 with (first | (go_at_call 14; refine HM.out.mono ?_; rintro e W1 ⟨rfl, hB1⟩; have HB := Lib.hid hB1; clear hB1) | (go_at_call 15; refine (HS.out _ HB.out).mono ?_; rintro e W2 ⟨p', c', rfl, hA, _, hB2⟩))
    have HA := Lib.hid hA
    have HB := keep HB hB2
    clear hA hB2 HS HM
    go_wp2
    go_loopw [4, 6] (fun t u wr => ∃ k : Nat, u = .int .i64 k ∧ k ≤ n ∧ t = .string (S (linesT (s.take k))) ∧ Hid (Below W2.heap.size W2 wr)) (fun _ u _ => n - (intOf u).toNat)
    case atStart => exact ⟨0, rfl, Nat.zero_le _, rfl, Lib.hid (Below.refl _ _)⟩
    case round =>
      obtain ⟨k, rfl, hk, rfl, HBU⟩ := hrel
      by_cases hlt : k < n
      · have e1 : decide ((k : Int) < (n : Int)) = true := decide_eq_true (by omega)
        have e1' : decide (k < n) = true := decide_eq_true hlt
        have HK : Hid (k < s.length) := Lib.hid (by have := HN.out; omega)
        obtain ⟨r, hr⟩ : ∃ r, s[k]? = some r := ⟨_, List.getElem?_eq_getElem HK.out⟩
        have HR := Lib.hid hr
        have hok := Lib.hid (HW.out r (List.mem_of_getElem? hr)).ok
        have hone := Lib.hid (HO.out r (List.mem_of_getElem? hr))
        have hap := HA.out.later HBU.out
        clear hr
        rcases hap with ⟨_, hap⟩ | ⟨g, o, rfl, hgl, hh⟩
        · have := HK.out; rw [hap] at this; exact absurd this (Nat.not_lt_zero _)
        have HNET := Lib.hid (hh.net HR.out)
        have c17 : ∀ z : Later wr, z.val.cell? ⟨g, o + k * 19 + 17, none⟩ = some (.int .i64 r.bits) := Later.cell (hh.bits HR.out hok.out)
        have c18 : ∀ z : Later wr, z.val.cell? ⟨g, o + k * 19 + 18, none⟩ = some (.int .i64 r.link) := Later.cell (hh.link HR.out hok.out)
        clear hh hgl
        obtain ⟨n1, n2, n3, n4⟩ := line_num hone.out
        have HPR := Lib.hid (fun z : Later wr => rprint_calls r.net hok.out z.val)
        rw [cells_vals] at HPR
        have HI1 := Lib.hid (fun z : Later wr => dig_is (y := r.bits) (n := r.bits.toNat) (by omega) n2 z.val)
        have HI2 := Lib.hid (fun z : Later wr => dig_is (y := r.link) (n := r.link.toNat) (by omega) n4 z.val)
        have HZZ : Hid ((S (linesT (s.take k))).size ≤ 100000 ∧ (S (printV r.net)).size ≤ 5000 ∧ (S (textB 10 r.bits.toNat)).size ≤ 5000 ∧ (S (textB 10 r.link.toNat)).size ≤ 100000) := Lib.hid (by
          rw [S_size, S_size, S_size, S_size]
          have h1 := print_le r.net; have h2 := textB_le 10 r.bits.toNat; have h3 := textB_le 10 r.link.toNat
          have h4 := lines_le (s.take k) fun x hx => HO.out x (List.mem_of_mem_take hx)
          rw [List.length_take] at h4
          omega)
        have z1 : ¬ 9223372036854775807 < (S (linesT (s.take k))).size + (S (printV r.net)).size := by have := HZZ.out; omega
        have z2 : ¬ 9223372036854775807 < (S (linesT (s.take k))).size + (S (printV r.net)).size + 1 := by have := HZZ.out; omega
        have z3 : ¬ 9223372036854775807 < (S (linesT (s.take k))).size + (S (printV r.net)).size + 1 + (S (textB 10 r.bits.toNat)).size := by have := HZZ.out; omega
        have z4 : ¬ 9223372036854775807 < (S (linesT (s.take k))).size + (S (printV r.net)).size + 1 + (S (textB 10 r.bits.toNat)).size + 1 := by have := HZZ.out; omega
        have z5 : ¬ 9223372036854775807 < (S (linesT (s.take k))).size + (S (printV r.net)).size + 1 + (S (textB 10 r.bits.toNat)).size + 1 + (S (textB 10 r.link.toNat)).size := by have := HZZ.out; omega
        have z6 : ¬ 9223372036854775807 < (S (linesT (s.take k))).size + (S (printV r.net)).size + 1 + (S (textB 10 r.bits.toNat)).size + 1 + (S (textB 10 r.link.toNat)).size + 1 := by have := HZZ.out; omega
        have HNX : Hid (linesT (s.take (k + 1)) = linesT (s.take k) ++ (lineT r ++ [10])) := Lib.hid (by rw [List.take_add_one, HR.out]; exact linesT_snoc _ _)
        clear n1 n2 n3 n4 HZZ
        go_upto_region 8 with fail
        refine region_later (by kernel_rfl) (by kernel_rfl) ?_
        repeat (first | go_big_quiet_skip | (go_big_quiet_want; first | (refine quiet_at 35 _ rfl g (o + k * 19) r.net.vals _ rfl HNET.out Tryz.underlying35 rfl (by as_aux_lemma => exact asz hok.out) ?_; simp only [Act.put, List.setIfInBounds_toArray, List.set_cons_zero, List.set_cons_succ]; go_big_quiet_on) | (go_big_quiet_op; first | go_big_quiet_on | go_big_quiet_call ((first | (go_at_call 16; exact calls_later (HPR.out _)) | (go_at_call 17; first | (with_reducible exact calls_later (HI1.out _)) | (with_reducible exact calls_later (HI2.out _))))))))
        refine wpQuiet_nil ?_
        intro z hz
        rw [rline_S, ← HNX.out]
        have HBU := Lib.hid (HBU.out.trans (hz.mono HBU.out.size))
        clear hz c17 c18
        go_wp2
        exact ⟨⟨k + 1, by go_num, by omega, rfl, HBU⟩, by simp [intOf]; omega⟩
      · have e1 : decide ((k : Int) < (n : Int)) = false := decide_eq_false (by omega)
        have e1' : decide (k < n) = false := decide_eq_false hlt
        have HT : Hid (linesT (s.take k) = linesT s) := Lib.hid (by
          have hkn : k = n := by omega
          rw [hkn, ← HN.out, List.take_length])
        rw [HT.out]
        clear hlt
        go_wp2
        go_ret2
        exact ⟨rfl, (keep HB HBU.out).out⟩
theorem S_same (l : List UInt8) : ((S l).toList == (S l).toList) = true := beq_self_eq_true _
set_option maxRecDepth 100000 in
set_option maxHeartbeats 4000000 in
theorem prints_law {l : List Rt} (hl : ∀ r ∈ l, r.wf) (hb : l.length ≤ 1048576) (p : Option Go.Addr) (c : Nat) (w : World) (hp : At w p l) (hn : p = none → c = 0) (hg : Gp w) :
    Calls Tryz.prog 3 #[.slice p l.length c] w fun e w' => e = .returned (.bool true) ∧ Below w.heap.size w w' := by
  have HG := Lib.hid hg
  have HOW := Lib.hid (own_calls (fun r hr => (hl r hr).ok) hb p c w hp hn)
  have HPR := Lib.hid (fun p c w' (h : AtS w' p l) hg => printl_calls hl p c w' h hg)
  have HRP := Lib.hid (fun w' (h : Below w.heap.size w w') => rprintl_calls hl p c w' (hp.later h))
  obtain ⟨pv, hpv⟩ : ∃ v, printR l = v := ⟨_, rfl⟩
  obtain ⟨q, er⟩ := pv
  rw [hpv] at HPR HRP
  simp only at HPR HRP
  obtain ⟨n, hnn⟩ : ∃ n, l.length = n := ⟨_, rfl⟩
  rw [hnn] at HOW HPR HRP ⊢
  have f1 := S_same q
  have f2 : (er == er) = true := beq_self_eq_true er
  clear hp hn hg hnn hb hl hpv
  go_enter Tryz.func3, Tryz.ntmps3
  go_upto_region 2 with (first | (go_at_call 5; refine HOW.out.mono ?_; rintro e W2 ⟨p1, c1, rfl, hA1, _, hB2⟩) | (go_at_call 4; refine (HPR.out _ _ _ hA1 (HG.out.later hB2)).mono ?_; rintro e W3 ⟨rfl, hB3⟩))
  have HB := Lib.hid (hB2.trans (hB3.mono hB2.size))
  clear hB2 hB3 hA1
  go_upto_region 3 with (go_at_call 6; refine (HRP.out _ HB.out).mono ?_; rintro e W4 ⟨rfl, hB4⟩)
  have HB := keep HB hB4
  clear hB4
  go_wp2_with (go_at_call 7; refine (known_calls _ (HG.out.later HB.out).gl).mono ?_; rintro e W6 ⟨rfl, hB6⟩; have HB := keep HB hB6; clear hB6)
  go_ret
  exact ⟨rfl, HB.out⟩
end Go.Proofs.YtpaplobjmmpliaaGreatDoor.Ad
