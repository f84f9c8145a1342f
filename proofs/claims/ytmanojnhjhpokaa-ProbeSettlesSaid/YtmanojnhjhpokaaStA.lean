/- The walk of ProbeSettles: it answers true, and leaves alone all memory that was there. Conditions: the list is read from its cells, and is no longer than a slice may be. -/
import Derived.Test.YtmanojnhjhpokaaSeI
import Derived.Deep.LoopGhost
import Derived.Deep.DeepCutAuto
import Derived.Deep.CutBlock
namespace Go.Proofs.Ytmanojnhjhpokaa.PB
set_option linter.unusedVariables false
set_option linter.unusedSimpArgs false
open Go.RowKit
def Bools (w : World) (A : Option Addr) (n : Nat) (S : Nat → Bool) : Prop := 0 < n → ∃ a, A = some a ∧ ∀ i, i < n → w.cell? (a.add i) = some (.bool (S i))
theorem Bools.silent {w wr : World} {g : Nat} {d : Cfg} {s : Pt} {A : Option Addr} {n : Nat} {S : Nat → Bool} (h : Bools w A n S) (hw : HW w wr g d s) : Silent wr g A n S := by
  intro hn
  obtain ⟨a, rfl, ha⟩ := h hn
  have h0 : a.block < w.heap.size := World.block_lt_of_cell? w (a.add 0) (ha 0 hn)
  have h1 := hw.below.size
  have h2 := hw.g0
  exact ⟨a, rfl, by omega, by omega, fun i hi => (hw.below.cell (World.block_lt_of_cell? w _ (ha i hi))).trans (ha i hi)⟩
theorem e2_one {s : Pt} {now : Int} (hu : s.unum = 0) (h : s.state = 1) : (e2 s now).state = 1 := by
  unfold e2 e1
  rw [if_neg (by omega), raised_idle (E := ({ s with now := now } : Pt)) (.inl h)]
  exact h
theorem lg_ex {n : Int} (h : n ≤ 65536) : ∃ b : Nat, b ≤ 16 ∧ n ≤ 2 ^ b ∧ ∀ k, k < b → (2 : Int) ^ k < n := by
  have key : ∀ B : Nat, n ≤ 2 ^ B → ∃ b : Nat, b ≤ B ∧ n ≤ 2 ^ b ∧ ∀ k, k < b → (2 : Int) ^ k < n := by
    intro B
    induction B with
    | zero => intro hB; exact ⟨0, Nat.le_refl _, hB, fun k hk => absurd hk (Nat.not_lt_zero _)⟩
    | succ B ih =>
      intro hB
      by_cases hx : n ≤ 2 ^ B
      · obtain ⟨b, h1, h2⟩ := ih hx
        exact ⟨b, by omega, h2⟩
      · refine ⟨B + 1, Nat.le_refl _, hB, fun k hk => ?_⟩
        have : (2 : Int) ^ k ≤ 2 ^ B := by
          have := Nat.pow_le_pow_right (n := 2) (by decide) (show k ≤ B by omega)
          exact_mod_cast this
        omega
  exact key 16 (by have e : (2 : Int) ^ 16 = 65536 := by decide
                   omega)
set_option maxRecDepth 100000 in
set_option maxHeartbeats 4000000 in
theorem halvings_at (n : Int) (b : Nat) (w : World) (h0 : 1 ≤ n) (h1 : n ≤ 65536) (hb : n ≤ 2 ^ b) (h16 : b ≤ 16) (hl : ∀ k, k < b → (2 : Int) ^ k < n) :
    Calls Try.prog 19 #[.int .i64 n] w fun e w' => e = .returned (.int .i64 b) ∧ w = w' := by
  refine Calls.mono (R := fun e w' => e = .returned (.int .i64 b) ∧ w = w') ?_ fun _ _ h => h
  have HB := Lib.hid hb
  have HL := Lib.hid hl
  clear hb hl
  go_enter Try.func19, Try.ntmps19
  go_wp2_with fail
  go_loopg [3, 4] b (fun kq v3 v4 wr => ∃ (i : Nat) (z : Int), v3 = .int .i64 i ∧ v4 = .int .i64 z ∧ i + kq = b ∧ 1 ≤ z ∧ z ≤ 65536 ∧ Hid (z = 2 ^ i) ∧ w = wr)
  case atStart => exact ⟨0, 1, rfl, rfl, by omega, by decide, by decide, Lib.hid rfl, rfl⟩
  case round =>
    obtain ⟨i, z, rfl, rfl, hi, hz1, hz2, hz, rfl⟩ := hrel
    by_cases hlt : z < n
    · have e1 : decide (z < n) = true := decide_eq_true hlt
      have i16 : i < b := by
        rcases Nat.lt_or_ge i b with h | h
        · exact h
        · have e : i = b := by omega
          have := HB.out
          rw [hz.out, e] at hlt
          omega
      have hzz : Hid (2 * z = 2 ^ (i + 1)) := Lib.hid (by rw [hz.out, Int.pow_succ]; omega)
      have h2 : 2 * z ≤ 65536 := by
        have e : (2 : Int) ^ (i + 1) ≤ 2 ^ 16 := by
          have := Nat.pow_le_pow_right (n := 2) (by decide) (show i + 1 ≤ 16 by omega)
          exact_mod_cast this
        have e2 : (2 : Int) ^ 16 = 65536 := by decide
        rw [hzz.out]; omega
      go_wp2_with fail
      go_roundg (gk - 1)
      case measure => omega
      case rel => exact ⟨i + 1, 2 * z, by go_num, by go_num, by omega, by omega, h2, hzz, rfl⟩
    · have e1 : decide (z < n) = false := decide_eq_false hlt
      have ib : i = b := by
        rcases Nat.lt_or_ge i b with h | h
        · have := HL.out i h
          rw [← hz.out] at this
          omega
        · omega
      go_wp2_with fail
      go_ret
      exact ⟨rfl, rfl⟩
theorem HW.below_ {w wr w1 : World} {g : Nat} {d : Cfg} {s : Pt} (h : HW w wr g d s) (hb : Below wr.heap.size wr w1) : HW w w1 g d s :=
  ⟨h.is.below_ hb, h.box.below_ hb, h.below.trans (hb.mono h.below.size), h.g0⟩
set_option maxRecDepth 100000 in
set_option maxHeartbeats 16000000 in
theorem settles_walk (c : Cfg) (m0 : Int) (A0 : Option Addr) (n cap : Nat) (S : Nat → Bool) (later : Int) (w : World) (hs : Hid (Bools w A0 n S)) (hn : n ≤ 140737488355328) :
    Calls Try.prog 4 #[.agg #[.int .i64 c.v, .int .i64 c.base, .int .i64 c.most, .int .i64 c.tries, .int .i64 c.losses, .int .i64 c.wait, .int .i64 c.raise], .int .i64 m0, .slice A0 n cap, .int .i64 later] w fun e w' => e = .returned (.bool true) ∧ Below w.heap.size w w' := by
  go_enter Try.func4, Try.ntmps4
  go_wp2_with fail
  refine (alive_calls _).mono ?_
  rintro e w1 ⟨rfl, hb1⟩
  have hz1 : w.heap.size < w1.heap.size := by have := hb1.size; simp at this; omega
  have B1 := Lib.hid (((Below.refl w.heap.size w).alloc (Nat.le_refl _) _).trans (hb1.mono (by simp)))
  have hb1' := hb1
  have x1 := box_at (b := w.heap.size) hb1 (by simp)
  clear hb1
  go_wp2_with fail
  refine (bounded_some c _).mono ?_
  rintro e w2 ⟨d, hd, rfl, hb2⟩
  have Hd := Lib.hid (Cfg.made_ok c)
  rw [← hd] at Hd
  clear hd
  have hb2c : w1.heap.size ≤ w2.heap.size := hb2.size
  have hk2 : Blk w2 w.heap.size 30 #[.int .i64 c.v, .int .i64 c.base, .int .i64 c.most, .int .i64 c.tries, .int .i64 c.losses, .int .i64 c.wait, .int .i64 c.raise] := Blk.below_ (Blk.below_ (Blk.new w 30 _) hb1') hb2
  have x2 : ∀ i, w2.cell? ⟨w.heap.size, i, none⟩ = (#[.int .i64 c.v, .int .i64 c.base, .int .i64 c.most, .int .i64 c.tries, .int .i64 c.losses, .int .i64 c.wait, .int .i64 c.raise] : Array Value)[i]? := fun i => hk2.cell i
  have y2 : ∀ i, w2.frozen? ⟨w.heap.size, i, none⟩ = false := fun i => hk2.frozen i
  clear x1
  have HK2 := Lib.hid hk2
  have B2 := Lib.hid (B1.out.trans (hb2.mono (by omega)))
  clear hk2 hb2 hb1' B1
  go_wp2_with fail
  refine calls_named fun W hW => ?_
  have hkW : Blk W w.heap.size 30 #[.int .i64 d.v, .int .i64 d.base, .int .i64 d.most, .int .i64 d.tries, .int .i64 d.losses, .int .i64 d.wait, .int .i64 d.raise] := by
    rw [hW]
    have q := ((((((HK2.out.set_ 0 (.int .i64 d.v)).set_ 1 (.int .i64 d.base)).set_ 2 (.int .i64 d.most)).set_ 3 (.int .i64 d.tries)).set_ 4 (.int .i64 d.losses)).set_ 5 (.int .i64 d.wait)).set_ 6 (.int .i64 d.raise)
    exact q
  have bW : Below w.heap.size w W := by
    rw [hW]
    exact ((((((B2.out.setCell (by simp) _).setCell (by simp) _).setCell (by simp) _).setCell (by simp) _).setCell (by simp) _).setCell (by simp) _).setCell (by simp) _
  have HKW := Lib.hid hkW
  have BW := Lib.hid bW
  have hlW : w.heap.size < W.heap.size := hkW.lt
  clear hkW bW hW x2 y2 HK2 B2
  refine (new_calls d W).mono ?_
  rintro e w3 hM
  obtain ⟨g, rfl, hg, hI, hb3⟩ := hM.1 Hd.out.1
  clear hM
  as_aux_lemma =>
  have hk3 : Blk w3 w.heap.size 30 _ := HKW.out.below_ hb3
  have HW3 : Hid (HW w w3 g d d.path) := Lib.hid ⟨hI, hk3, BW.out.trans (hb3.mono BW.out.size), by omega⟩
  clear hk3 hI hb3 BW HKW hlW hz1 hb2c hg
  obtain ⟨b1, b2, b3, b4, b5, b6, b7⟩ : floorOf d.v ≤ d.base ∧ d.base ≤ d.most ∧ d.most ≤ 65535 ∧ 0 < floorOf d.v ∧ 1 ≤ d.losses ∧ d.losses ≤ 64 ∧ d.wait ≤ 100 := ⟨Hd.out.1.base, Hd.out.1.most, Hd.out.1.most1, (floor_pos d.v).1, Hd.out.1.losses.1, Hd.out.1.losses.2, Hd.out.2.1⟩
  have b8 := Hd.out.1.tries
  have q3 : ∀ k, w3.cell? ⟨w.heap.size, k, none⟩ = (#[.int .i64 d.v, .int .i64 d.base, .int .i64 d.most, .int .i64 d.tries, .int .i64 d.losses, .int .i64 d.wait, .int .i64 d.raise] : Array Value)[k]? := fun k => HW3.out.box.cell k
  dsimp only
  go_upto_region 10 with (first
    | (go_at_call 17; (with_reducible refine (least_calls _ _).mono ?_); rintro e w' ⟨rfl, rfl⟩)
    | (go_at_call 18; (with_reducible refine (rest_in m0 (floorOf d.v) 65535 _ (by omega) (by omega) (by decide)).mono ?_); rintro e w' ⟨m, rfl, m1, m2, rfl⟩))
  obtain ⟨b, b16, hb, hlb⟩ := lg_ex (n := d.most - d.base + 1) (by omega)
  have HB := Lib.hid hb
  have HLB := Lib.hid hlb
  obtain ⟨u1, u2, u3, u4⟩ := budget (b := (b : Int)) b8.1 b8.2 (by omega) (by omega)
  obtain ⟨M, hM⟩ : ∃ M, M = (d.tries + 1) * ((b : Int) + 3) := ⟨_, rfl⟩
  have M0 : 0 ≤ M := by omega
  have M1 : M ≤ 323 := by omega
  have HM : Hid (wrap64 ((d.tries + 1) * ((b : Int) + 3)) = M) := Lib.hid (by rw [hM]; unfold wrap64; omega)
  obtain ⟨t, T, j, hrun, hF⟩ := first_run (talkOf n S) Hd.out.1 Hd.out.2.1 m1 hb b16
  rw [← hM] at hrun
  have HR := Lib.hid hrun
  have HF := Lib.hid hF
  have HMM := Lib.hid hM
  clear hb hlb u1 u2 u3 u4 hM hrun hF
  go_quiet ((go_at_call 19; exact Calls.quiet_of_same ((halvings_at _ b _ (by omega) (by omega) HB.out b16 HLB.out).mono fun _ _ h => ⟨h.1, h.2.symm⟩)))
  rw [HM.out]
  generalize hw4 : w3.drewN nq = w4
  have HW4 : Hid (HW w w4 g d d.path) := Lib.hid (by rw [← hw4]; exact HW3.out.drewN _)
  have HS4 : Hid (Silent w4 g A0 n S) := Lib.hid (hs.out.silent HW4.out)
  clear hw4 HW3 q3
  have q4 : ∀ k, w4.cell? ⟨w.heap.size, k, none⟩ = (#[.int .i64 d.v, .int .i64 d.base, .int .i64 d.most, .int .i64 d.tries, .int .i64 d.losses, .int .i64 d.wait, .int .i64 d.raise] : Array Value)[k]? := fun k => HW4.out.box.cell k
  have k0c : d.path.cfg = d := rfl
  have k0n : d.path.now ≤ 0 := (show (0 : Int) ≤ 0 by decide)
  have k0i := path_inv Hd.out.1
  go_upto_region 12 with (go_at_call 20; (with_reducible refine (settle_calls 0 d.path d g m A0 n cap S 0 M (t, T, j) _ HW4.out.is k0i k0c b7 k0n M0 (by omega) (by omega) (by omega) HS4 hn HR).mono ?_); rintro e w5 ⟨rfl, hp5⟩)
  have HW5 := Lib.hid (HW4.out.put hp5)
  clear hp5 q4 HW4 HS4 HR k0c k0n k0i
  have HC : Hid (t.cfg = d) := Lib.hid HF.out.cfg
  obtain ⟨j0, t0, t1⟩ : 0 ≤ j ∧ 0 ≤ T ∧ T ≤ 40000 := ⟨HF.out.j0, HF.out.t0, HF.out.t1⟩
  have r0 : 1 ≤ d.raise ∧ d.raise ≤ 1000 := ⟨Hd.out.1.raise.1, Hd.out.2.2⟩
  have q5 : ∀ k, w5.cell? ⟨w.heap.size, k, none⟩ = (#[.int .i64 d.v, .int .i64 d.base, .int .i64 d.most, .int .i64 d.tries, .int .i64 d.losses, .int .i64 d.wait, .int .i64 d.raise] : Array Value)[k]? := fun k => HW5.out.box.cell k
  have y1 : decide (j < 0) = false := decide_eq_false (by omega)
  try dsimp only
  by_cases hA : m < d.base
  · as_aux_lemma =>
    have HST : Hid (Stand d m t) := Lib.hid (.inl ⟨hA, (HF.out.err hA).1⟩)
    have y2 : decide (m < d.base) = true := decide_eq_true hA
    have y3 : (j != d.tries) = false := by rw [(HF.out.err hA).2]; simp
    have y4 : decide (d.most ≤ m) = false := decide_eq_false (by omega)
    obtain ⟨p, hp, HN, HI⟩ : ∃ p : Pt, p = { t with now := T + d.raise - 1 } ∧ Hid (t.nextA (T + d.raise - 1) = ((0, 0, 0), p)) ∧ Hid (Inv 500 p) := ⟨_, rfl, Lib.hid (first_wait HF.out Hd.out.1 r0.2), Lib.hid (first_at HF.out Hd.out.1 r0.2)⟩
    have HP := Lib.hid hp
    clear hp
    go_upto_region 18 with (first
      | (go_at_call 21; (with_reducible refine (stands_calls t d m g _ HW5.out.is HST.out HC.out).mono ?_); rintro e w6 ⟨rfl, hb6⟩; (have HW6 := Lib.hid (HW5.out.below_ hb6)); clear hb6 HW5 q5; (have q6 : ∀ k, w6.cell? ⟨w.heap.size, k, none⟩ = (#[.int .i64 d.v, .int .i64 d.base, .int .i64 d.most, .int .i64 d.tries, .int .i64 d.losses, .int .i64 d.wait, .int .i64 d.raise] : Array Value)[k]? := fun k => HW6.out.box.cell k))
      | (go_at_call 22; (with_reducible refine (next_go 400 t p g (T + d.raise - 1) 0 0 _ HW6.out.is HF.out.inv (by decide) HN).mono ?_); rintro e w7 ⟨rfl, hp7⟩; (have HW7 := Lib.hid (HW6.out.put hp7)); clear hp7 HW6 q6; (have q7 : ∀ k, w7.cell? ⟨w.heap.size, k, none⟩ = (#[.int .i64 d.v, .int .i64 d.base, .int .i64 d.most, .int .i64 d.tries, .int .i64 d.losses, .int .i64 d.wait, .int .i64 d.raise] : Array Value)[k]? := fun k => HW7.out.box.cell k)))
    try dsimp only
    go_upto_region 22 with (go_at_call 18; (with_reducible refine (rest_in later (floorOf d.v) 65535 _ (by omega) (by omega) (by decide)).mono ?_); rintro e w' ⟨v, rfl, v1, v2, rfl⟩)
    have HCP : Hid (p.cfg = d) := Lib.hid (by rw [HP.out]; exact HC.out)
    have HNP : Hid (p.now = T + d.raise - 1) := Lib.hid (by rw [HP.out])
    have HUP : Hid (p.unum = 0) := Lib.hid (by rw [HP.out]; exact HF.out.un)
    have HSV : Hid (Silent w7 g A0 n S) := Lib.hid (hs.out.silent HW7.out)
    have HMX := HMM
    by_cases hv : v < m
    · as_aux_lemma =>
      have x1 : decide (v < m) = true := decide_eq_true hv
      have x2 : decide (d.base < m) = false := decide_eq_false (by omega)
      have x3 : (m == d.base) = false := beq_eq_false_iff_ne.2 (by omega)
      obtain ⟨t2, T2, j2, hr2, hj2, hst2, hc2, _⟩ := second_base (talkOf n S) Hd.out.1 b7 v1 HB.out b16 HI.out HCP.out HUP.out (by rw [HNP.out]; omega) (show T + d.raise ≤ 100000 by omega) (by rw [HP.out]; exact raised_base HF.out Hd.out.1 r0.2 hA)
      have HR2 := Lib.hid (by rw [← HMX.out] at hr2; exact hr2)
      have HST2 := Lib.hid hst2
      have HC2 := Lib.hid hc2
      clear hr2 hst2 hc2
      have z1 : decide (0 ≤ j2) = true := decide_eq_true hj2
      go_wp2_with (first
        | (go_at_call 20; (with_reducible refine (settle_calls 500 p d g v A0 n cap S (T + d.raise) M (t2, T2, j2) _ HW7.out.is HI.out HCP.out b7 (by rw [HNP.out]; omega) M0 (by omega) (by omega) (by omega) HSV hn HR2).mono ?_); rintro e w8 ⟨rfl, hp8⟩; (have HW8 := Lib.hid (HW7.out.put hp8)); clear hp8 HW7 q7; (have q8 : ∀ k, w8.cell? ⟨w.heap.size, k, none⟩ = (#[.int .i64 d.v, .int .i64 d.base, .int .i64 d.most, .int .i64 d.tries, .int .i64 d.losses, .int .i64 d.wait, .int .i64 d.raise] : Array Value)[k]? := fun k => HW8.out.box.cell k))
        | (go_at_call 21; (with_reducible refine (stands_calls t2 d v g _ HW8.out.is HST2.out HC2.out).mono ?_); rintro e w9 ⟨rfl, hb9⟩))
      go_ret
      exact ⟨by simp, HW8.out.below.trans (hb9.mono HW8.out.below.size)⟩
    · as_aux_lemma =>
      have x1 : decide (v < m) = false := decide_eq_false hv
      obtain ⟨t2, T2, j2, hr2, hj2, hst2, hc2, _⟩ := second_base (talkOf n S) Hd.out.1 b7 v1 HB.out b16 HI.out HCP.out HUP.out (by rw [HNP.out]; omega) (show T + d.raise ≤ 100000 by omega) (by rw [HP.out]; exact raised_base HF.out Hd.out.1 r0.2 hA)
      have HR2 := Lib.hid (by rw [← HMX.out] at hr2; exact hr2)
      have HST2 := Lib.hid hst2
      have HC2 := Lib.hid hc2
      clear hr2 hst2 hc2
      have z1 : decide (0 ≤ j2) = true := decide_eq_true hj2
      go_wp2_with (first
        | (go_at_call 20; (with_reducible refine (settle_calls 500 p d g v A0 n cap S (T + d.raise) M (t2, T2, j2) _ HW7.out.is HI.out HCP.out b7 (by rw [HNP.out]; omega) M0 (by omega) (by omega) (by omega) HSV hn HR2).mono ?_); rintro e w8 ⟨rfl, hp8⟩; (have HW8 := Lib.hid (HW7.out.put hp8)); clear hp8 HW7 q7; (have q8 : ∀ k, w8.cell? ⟨w.heap.size, k, none⟩ = (#[.int .i64 d.v, .int .i64 d.base, .int .i64 d.most, .int .i64 d.tries, .int .i64 d.losses, .int .i64 d.wait, .int .i64 d.raise] : Array Value)[k]? := fun k => HW8.out.box.cell k))
        | (go_at_call 21; (with_reducible refine (stands_calls t2 d v g _ HW8.out.is HST2.out HC2.out).mono ?_); rintro e w9 ⟨rfl, hb9⟩))
      go_ret
      exact ⟨by simp, HW8.out.below.trans (hb9.mono HW8.out.below.size)⟩
  · by_cases hB : d.most ≤ m
    · as_aux_lemma =>
      have HST : Hid (Stand d m t) := Lib.hid (.inr ⟨by omega, (HF.out.fin (by omega)).1, (HF.out.fin (by omega)).2.1⟩)
      have y2 : decide (m < d.base) = false := decide_eq_false hA
      have y4 : decide (d.most ≤ m) = true := decide_eq_true hB
      have HT1 := Lib.hid (first_top HF.out Hd.out.1 r0.2 hB)
      obtain ⟨p, hp, HN, HZ⟩ : ∃ p : Pt, p = { t with now := T + d.raise } ∧ Hid (t.nextA (T + d.raise) = ((0, 0, 0), p)) ∧ Hid (p.size = d.most) := ⟨_, rfl, Lib.hid HT1.out.1, Lib.hid (by rw [← HT1.out.2]; unfold Pt.size; dsimp only; rw [(HF.out.fin (by omega)).1]; rfl)⟩
      clear hp HT1
      go_upto_region 16 with (first
        | (go_at_call 21; (with_reducible refine (stands_calls t d m g _ HW5.out.is HST.out HC.out).mono ?_); rintro e w6 ⟨rfl, hb6⟩; (have HW6 := Lib.hid (HW5.out.below_ hb6)); clear hb6 HW5 q5; (have q6 : ∀ k, w6.cell? ⟨w.heap.size, k, none⟩ = (#[.int .i64 d.v, .int .i64 d.base, .int .i64 d.most, .int .i64 d.tries, .int .i64 d.losses, .int .i64 d.wait, .int .i64 d.raise] : Array Value)[k]? := fun k => HW6.out.box.cell k))
        | (go_at_call 22; (with_reducible refine (next_go 400 t p g (T + d.raise) 0 0 _ HW6.out.is HF.out.inv (by decide) HN).mono ?_); rintro e w7 ⟨rfl, hp7⟩; (have HW7 := Lib.hid (HW6.out.put hp7)); clear hp7 HW6 q6; (have q7 : ∀ k, w7.cell? ⟨w.heap.size, k, none⟩ = (#[.int .i64 d.v, .int .i64 d.base, .int .i64 d.most, .int .i64 d.tries, .int .i64 d.losses, .int .i64 d.wait, .int .i64 d.raise] : Array Value)[k]? := fun k => HW7.out.box.cell k)))
      try dsimp only
      go_quiet ((go_at_call 15; exact Calls.quiet_of_same ((size_base p g d.most _ (by exact HW7.out.is) HZ).mono fun _ _ h => ⟨h.1, h.2.symm⟩)))
      go_wp2_with fail
      go_ret
      exact ⟨by simp, bdn HW7.out.below _⟩
    · have HST : Hid (Stand d m t) := Lib.hid (.inr ⟨by omega, (HF.out.fin (by omega)).1, (HF.out.fin (by omega)).2.1⟩)
      have y2 : decide (m < d.base) = false := decide_eq_false hA
      have y4 : decide (d.most ≤ m) = false := decide_eq_false hB
      as_aux_lemma =>
      obtain ⟨p, hp, HN, HI⟩ : ∃ p : Pt, p = { t with now := T + d.raise - 1 } ∧ Hid (t.nextA (T + d.raise - 1) = ((0, 0, 0), p)) ∧ Hid (Inv 500 p) := ⟨_, rfl, Lib.hid (first_wait HF.out Hd.out.1 r0.2), Lib.hid (first_at HF.out Hd.out.1 r0.2)⟩
      have HP := Lib.hid hp
      clear hp
      go_upto_region 18 with (first
        | (go_at_call 21; (with_reducible refine (stands_calls t d m g _ HW5.out.is HST.out HC.out).mono ?_); rintro e w6 ⟨rfl, hb6⟩; (have HW6 := Lib.hid (HW5.out.below_ hb6)); clear hb6 HW5 q5; (have q6 : ∀ k, w6.cell? ⟨w.heap.size, k, none⟩ = (#[.int .i64 d.v, .int .i64 d.base, .int .i64 d.most, .int .i64 d.tries, .int .i64 d.losses, .int .i64 d.wait, .int .i64 d.raise] : Array Value)[k]? := fun k => HW6.out.box.cell k))
        | (go_at_call 22; (with_reducible refine (next_go 400 t p g (T + d.raise - 1) 0 0 _ HW6.out.is HF.out.inv (by decide) HN).mono ?_); rintro e w7 ⟨rfl, hp7⟩; (have HW7 := Lib.hid (HW6.out.put hp7)); clear hp7 HW6 q6; (have q7 : ∀ k, w7.cell? ⟨w.heap.size, k, none⟩ = (#[.int .i64 d.v, .int .i64 d.base, .int .i64 d.most, .int .i64 d.tries, .int .i64 d.losses, .int .i64 d.wait, .int .i64 d.raise] : Array Value)[k]? := fun k => HW7.out.box.cell k)))
      try dsimp only
      go_upto_region 22 with (go_at_call 18; (with_reducible refine (rest_in later (floorOf d.v) 65535 _ (by omega) (by omega) (by decide)).mono ?_); rintro e w' ⟨v, rfl, v1, v2, rfl⟩)
      have HCP : Hid (p.cfg = d) := Lib.hid (by rw [HP.out]; exact HC.out)
      have HNP : Hid (p.now = T + d.raise - 1) := Lib.hid (by rw [HP.out])
      have HUP : Hid (p.unum = 0) := Lib.hid (by rw [HP.out]; exact HF.out.un)
      have HSV : Hid (Silent w7 g A0 n S) := Lib.hid (hs.out.silent HW7.out)
      by_cases hv : v < m
      · have x1 : decide (v < m) = true := decide_eq_true hv
        by_cases hE : m = d.base
        · have x2 : decide (d.base < m) = false := decide_eq_false (by omega)
          have x3 : (m == d.base) = true := beq_iff_eq.2 hE
          have hz := second_narrow (talkOf n S) HF.out Hd.out.1 b7 r0.2 HB.out b16 hE (by omega) hv
          rw [← HP.out] at hz
          as_aux_lemma =>
          obtain ⟨t2, T2, j2, hr2, hj2⟩ := hz
          have HR2 := Lib.hid (by rw [← HMM.out] at hr2; exact hr2)
          clear hr2
          have z1 : decide (0 ≤ j2) = true := decide_eq_true hj2
          go_wp2_with (go_at_call 20; (with_reducible refine (settle_calls 500 p d g v A0 n cap S (T + d.raise) M (t2, T2, j2) _ HW7.out.is HI.out HCP.out b7 (by rw [HNP.out]; omega) M0 (by omega) (by omega) (by omega) HSV hn HR2).mono ?_); rintro e w8 ⟨rfl, hp8⟩; (have HW8 := Lib.hid (HW7.out.put hp8)); clear hp8 HW7 q7; (have q8 : ∀ k, w8.cell? ⟨w.heap.size, k, none⟩ = (#[.int .i64 d.v, .int .i64 d.base, .int .i64 d.most, .int .i64 d.tries, .int .i64 d.losses, .int .i64 d.wait, .int .i64 d.raise] : Array Value)[k]? := fun k => HW8.out.box.cell k))
          go_ret
          exact ⟨by simp, HW8.out.below⟩
        · have x2 : decide (d.base < m) = true := decide_eq_true (by omega)
          have x3 : (m == d.base) = false := beq_eq_false_iff_ne.2 hE
          as_aux_lemma =>
          have f3 := HF.out.fin (by omega)
          obtain ⟨p1, p2, p3, p4, p5⟩ : p.state = 3 ∧ p.low = m ∧ p.losses = 0 ∧ p.base = d.base ∧ p.mlosses = d.losses := ⟨by rw [HP.out]; exact f3.1, by rw [HP.out]; show t.low = m; omega, by rw [HP.out]; exact f3.2.2, by rw [← HCP.out]; rfl, by rw [← HCP.out]; rfl⟩
          have HPS : Hid (p.state = 3) := Lib.hid p1
          have HPL : Hid (p.low = m) := Lib.hid p2
          have HPB : Hid (p.base = d.base) := Lib.hid p4
          have HPM : Hid (p.mlosses = d.losses) := Lib.hid p5
          have HPZ : Hid (p.losses = 0) := Lib.hid p3
          clear f3 p1 p2 p3 p4 p5
          have hmm : m < d.most := by omega
          have x4 : decide (d.most < m) = false := decide_eq_false (by omega)
          have hnp : p.now ≤ 1099511627776 := by rw [HNP.out]; omega
          have HNX := Lib.hid hnp
          clear hnp HSV
          go_wp2_with fail
          clear q7
          go_loopg [23] d.losses.toNat (fun kq v23 wr => ∃ l : Nat, v23 = .int .i64 l ∧ l + kq = d.losses ∧ Hid (HW w wr g d (At p d.losses l)))
          case atStart => exact ⟨0, rfl, by omega, Lib.hid (by unfold At; rw [if_pos (by omega), show ((0 : Nat) : Int) = 0 from rfl, Lz.self HPZ.out]; exact HW7.out)⟩
          case round =>
            clear HW7
            obtain ⟨l, rfl, hl, hW⟩ := hrel
            have q0 : ∀ k, wr.cell? ⟨w.heap.size, k, none⟩ = (#[.int .i64 d.v, .int .i64 d.base, .int .i64 d.most, .int .i64 d.tries, .int .i64 d.losses, .int .i64 d.wait, .int .i64 d.raise] : Array Value)[k]? := fun k => hW.out.box.cell k
            by_cases hlt : (l : Int) < d.losses
            · have e1 : decide ((l : Int) < d.losses) = true := decide_eq_true hlt
              have hWl : Hid (HW w wr g d (Lz p l)) := Lib.hid (by have := hW.out; unfold At at this; rw [if_pos hlt] at this; exact this)
              have HIL : Hid (Inv 500 (Lz p l)) := Lib.hid (Lz.inv HI.out (by omega) (by rw [HPM.out]; omega))
              clear hW
              by_cases hlast : (l : Int) + 1 < d.losses
              · as_aux_lemma =>
                have e6 : ((l : Int) == d.losses - 1) = false := beq_eq_false_iff_ne.2 (by omega)
                have HX : Hid ((Lz p l).lostA m (T + d.raise - 1) = ((false, 0), Lz p ((l : Int) + 1))) := Lib.hid (by rw [← HNP.out]; exact lost_more HNX.out HPS.out (by rw [HPB.out]; omega) (by rw [HPL.out]; omega) (by rw [HPM.out]; omega))
                have HAt : Hid (At p d.losses ((l + 1 : Nat) : Int) = Lz p ((l : Int) + 1)) := Lib.hid (by unfold At; rw [if_pos (by omega)]; rfl)
                go_wp2_with (go_at_call 23; (with_reducible refine (lost_go 500 (Lz p l) (Lz p ((l : Int) + 1)) g m (T + d.raise - 1) false _ hWl.out.is HIL.out (by decide) HX).mono ?_); rintro e w8 ⟨rfl, hp8⟩; (have q8 : ∀ k, w8.cell? ⟨w.heap.size, k, none⟩ = (#[.int .i64 d.v, .int .i64 d.base, .int .i64 d.most, .int .i64 d.tries, .int .i64 d.losses, .int .i64 d.wait, .int .i64 d.raise] : Array Value)[k]? := fun k => (hWl.out.put hp8).box.cell k))
                go_roundg (d.losses.toNat - l - 1)
                case measure => omega
                case rel => exact ⟨l + 1, by go_num, by omega, Lib.hid (by rw [HAt.out]; exact hWl.out.put hp8)⟩
              · as_aux_lemma =>
                have e6 : ((l : Int) == d.losses - 1) = true := beq_iff_eq.2 (by omega)
                have HX : Hid ((Lz p l).lostA m (T + d.raise - 1) = ((true, 0), holed p)) := Lib.hid (by rw [← HNP.out]; exact lost_hole HNX.out HPS.out (by rw [HPB.out]; omega) (by rw [HPL.out]; omega) (by rw [HPM.out]; omega))
                have HAt : Hid (At p d.losses ((l + 1 : Nat) : Int) = holed p) := Lib.hid (by unfold At; rw [if_neg (by omega)])
                go_wp2_with (go_at_call 23; (with_reducible refine (lost_go 500 (Lz p l) (holed p) g m (T + d.raise - 1) true _ hWl.out.is HIL.out (by decide) HX).mono ?_); rintro e w8 ⟨rfl, hp8⟩; (have q8 : ∀ k, w8.cell? ⟨w.heap.size, k, none⟩ = (#[.int .i64 d.v, .int .i64 d.base, .int .i64 d.most, .int .i64 d.tries, .int .i64 d.losses, .int .i64 d.wait, .int .i64 d.raise] : Array Value)[k]? := fun k => (hWl.out.put hp8).box.cell k))
                go_roundg (d.losses.toNat - l - 1)
                case measure => omega
                case rel => exact ⟨l + 1, by go_num, by omega, Lib.hid (by rw [HAt.out]; exact hWl.out.put hp8)⟩
            · as_aux_lemma =>
              have e1 : decide ((l : Int) < d.losses) = false := decide_eq_false hlt
              have hWl : Hid (HW w wr g d (holed p)) := Lib.hid (by have := hW.out; unfold At at this; rw [if_neg hlt] at this; exact this)
              have HIH : Hid (Inv 500 (holed p)) := Lib.hid (holed_inv HI.out)
              have HZ : Hid ((holed p).size = d.base) := Lib.hid HPB.out
              have HY : Hid ((holed p).state = 1) := Lib.hid rfl
              have HCH : Hid ((holed p).cfg = d) := Lib.hid HCP.out
              have HNH : Hid ((holed p).now = T + d.raise - 1) := Lib.hid HNP.out
              clear hW
              go_upto_region 29 with fail
              go_quiet (first
                | (go_at_call 15; exact Calls.quiet_of_same ((size_base (holed p) g d.base _ (by exact hWl.out.is) HZ).mono fun _ _ h => ⟨h.1, h.2.symm⟩))
                | (go_at_call 14; exact Calls.quiet_of_same ((state_is (holed p) g 1 _ (by exact hWl.out.is) HY).mono fun _ _ h => ⟨h.1, h.2.symm⟩)))
              generalize hw7 : wr.drewN nq = w7
              have HW7 : Hid (HW w w7 g d (holed p)) := Lib.hid (by rw [← hw7]; exact hWl.out.drewN _)
              clear hw7 hWl q0
              have q7 : ∀ k, w7.cell? ⟨w.heap.size, k, none⟩ = (#[.int .i64 d.v, .int .i64 d.base, .int .i64 d.most, .int .i64 d.tries, .int .i64 d.losses, .int .i64 d.wait, .int .i64 d.raise] : Array Value)[k]? := fun k => HW7.out.box.cell k
              have HSV : Hid (Silent w7 g A0 n S) := Lib.hid (hs.out.silent HW7.out)
              have HMX := HMM
              have hz := second_base (talkOf n S) Hd.out.1 b7 v1 HB.out b16 HIH.out HCH.out rfl (by rw [HNH.out]; omega) (show T + d.raise ≤ 100000 by omega) (e2_one rfl rfl)
              obtain ⟨t2, T2, j2, hr2, hj2, hst2, hc2, _⟩ := hz
              have HR2 := Lib.hid (by rw [← HMX.out] at hr2; exact hr2)
              have HST2 := Lib.hid hst2
              have HC2 := Lib.hid hc2
              clear hr2 hst2 hc2
              have z1 : decide (0 ≤ j2) = true := decide_eq_true hj2
              go_wp2_with (first
                | (go_at_call 20; (with_reducible refine (settle_calls 500 (holed p) d g v A0 n cap S (T + d.raise) M (t2, T2, j2) _ HW7.out.is HIH.out HCH.out b7 (by rw [HNH.out]; omega) M0 (by omega) (by omega) (by omega) HSV hn HR2).mono ?_); rintro e w8 ⟨rfl, hp8⟩; (have HW8 := Lib.hid (HW7.out.put hp8)); clear hp8 HW7 q7; (have q8 : ∀ k, w8.cell? ⟨w.heap.size, k, none⟩ = (#[.int .i64 d.v, .int .i64 d.base, .int .i64 d.most, .int .i64 d.tries, .int .i64 d.losses, .int .i64 d.wait, .int .i64 d.raise] : Array Value)[k]? := fun k => HW8.out.box.cell k))
                | (go_at_call 21; (with_reducible refine (stands_calls t2 d v g _ HW8.out.is HST2.out HC2.out).mono ?_); rintro e w9 ⟨rfl, hb9⟩))
              go_ret
              exact ⟨by simp, HW8.out.below.trans (hb9.mono HW8.out.below.size)⟩
      · have x1 : decide (v < m) = false := decide_eq_false hv
        have hz := second_wider (talkOf n S) HF.out Hd.out.1 b7 r0.2 HB.out b16 (by omega) (by omega) (show m ≤ v by omega)
        rw [← HP.out] at hz
        have HMX := HMM
        as_aux_lemma =>
        obtain ⟨t2, T2, j2, hr2, hj2, hst2, hc2, _⟩ := hz
        have HR2 := Lib.hid (by rw [← HMX.out] at hr2; exact hr2)
        have HST2 := Lib.hid hst2
        have HC2 := Lib.hid hc2
        clear hr2 hst2 hc2
        have z1 : decide (0 ≤ j2) = true := decide_eq_true hj2
        go_wp2_with (first
          | (go_at_call 20; (with_reducible refine (settle_calls 500 p d g v A0 n cap S (T + d.raise) M (t2, T2, j2) _ HW7.out.is HI.out HCP.out b7 (by rw [HNP.out]; omega) M0 (by omega) (by omega) (by omega) HSV hn HR2).mono ?_); rintro e w8 ⟨rfl, hp8⟩; (have HW8 := Lib.hid (HW7.out.put hp8)); clear hp8 HW7 q7; (have q8 : ∀ k, w8.cell? ⟨w.heap.size, k, none⟩ = (#[.int .i64 d.v, .int .i64 d.base, .int .i64 d.most, .int .i64 d.tries, .int .i64 d.losses, .int .i64 d.wait, .int .i64 d.raise] : Array Value)[k]? := fun k => HW8.out.box.cell k))
          | (go_at_call 21; (with_reducible refine (stands_calls t2 d v g _ HW8.out.is HST2.out HC2.out).mono ?_); rintro e w9 ⟨rfl, hb9⟩))
        go_ret
        exact ⟨by simp, HW8.out.below.trans (hb9.mono HW8.out.below.size)⟩
end Go.Proofs.Ytmanojnhjhpokaa.PB
