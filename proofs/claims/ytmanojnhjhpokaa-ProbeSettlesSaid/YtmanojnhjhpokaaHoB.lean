/- The walk of ProbeHole: it answers true, and leaves alone all memory that was there. Conditions: the list of sizes is read from its cells, and is no longer than a slice may be. -/
import Derived.Test.YtmanojnhjhpokaaHoA
import Derived.Deep.LoopGhost
import Derived.Deep.DeepCutAuto
import Derived.Deep.CutBlock
namespace Go.Proofs.Ytmanojnhjhpokaa.PB
set_option linter.unusedVariables false
set_option linter.unusedSimpArgs false
open Go.RowKit
/-- What holds of the world behind settle. -/
structure HW (w wr : World) (g : Nat) (d : Cfg) (s : Pt) : Prop where
  is : Is wr g s
  box : Blk wr w.heap.size 30 #[.int .i64 d.v, .int .i64 d.base, .int .i64 d.most, .int .i64 d.tries, .int .i64 d.losses, .int .i64 d.wait, .int .i64 d.raise]
  below : Below w.heap.size w wr
  g0 : w.heap.size < g
theorem HW.put {w wr w1 : World} {g : Nat} {d : Cfg} {s t : Pt} (h : HW w wr g d s) (hp : Put wr w1 g 66 t.cells) : HW w w1 g d t :=
  ⟨hp.blk, put_blk hp h.box (by have := h.g0; omega), hp.below h.below (Nat.le_of_lt h.g0), h.g0⟩
theorem HW.drewN {w wr : World} {g : Nat} {d : Cfg} {s : Pt} (h : HW w wr g d s) (k : Nat) : HW w (wr.drewN k) g d s := ⟨h.is.drewN k, h.box.drewN k, bdn h.below k, h.g0⟩
theorem size_fin (t : Pt) (g : Nat) (w : World) (h : Is w g t) (hs : Hid (t.state = 3)) : Calls Try.prog 15 #[.pointer (some ⟨g, 0, none⟩)] w fun e w' => e = .returned (.int .i64 t.low) ∧ w = w' := by
  have := size_same t g w h
  rw [show t.size = t.low by unfold Pt.size; rw [hs.out]; rfl] at this
  exact this
theorem size_base (t : Pt) (g : Nat) (b : Int) (w : World) (h : Is w g t) (hs : Hid (t.size = b)) : Calls Try.prog 15 #[.pointer (some ⟨g, 0, none⟩)] w fun e w' => e = .returned (.int .i64 b) ∧ w = w' := by
  have := size_same t g w h
  rw [hs.out] at this
  exact this
theorem state_is (t : Pt) (g : Nat) (b : Int) (w : World) (h : Is w g t) (hs : Hid (t.state = b)) : Calls Try.prog 14 #[.pointer (some ⟨g, 0, none⟩)] w fun e w' => e = .returned (.int .i64 b) ∧ w = w' := by
  have := state_same t g w h
  rw [hs.out] at this
  exact this
def Ints (w : World) (A : Option Addr) (n : Nat) (V : Nat → Int) : Prop := 0 < n → ∃ a, A = some a ∧ ∀ i, i < n → w.cell? (a.add i) = some (.int .i64 (V i))
/-- The path of a round: the losses are counted, the last one is the black hole. -/
def At (t : Pt) (L : Int) (i : Int) : Pt := if i < L then Lz t i else holed t
set_option maxRecDepth 100000 in
set_option maxHeartbeats 16000000 in
theorem hole_walk (c : Cfg) (m0 : Int) (A0 : Option Addr) (n cap : Nat) (V : Nat → Int) (got0 : Int) (w : World) (hs : Hid (Ints w A0 n V)) (hn : n ≤ 17592186044404) :
    Calls Try.prog 6 #[.agg #[.int .i64 c.v, .int .i64 c.base, .int .i64 c.most, .int .i64 c.tries, .int .i64 c.losses, .int .i64 c.wait, .int .i64 c.raise], .int .i64 m0, .slice A0 n cap, .int .i64 got0] w fun e w' => e = .returned (.bool true) ∧ Below w.heap.size w w' := by
  go_enter Try.func6, Try.ntmps6
  go_wp2_with fail
  refine (alive_calls _).mono ?_
  rintro e w1 ⟨rfl, hb1⟩
  have hz1 : w.heap.size < w1.heap.size := by have := hb1.size; simp at this; omega
  have B1 := Lib.hid (((Below.refl w.heap.size w).alloc (Nat.le_refl _) _).trans (hb1.mono (by simp)))
  have hb1' := hb1
  have x1 := box_at (b := w.heap.size) hb1 (by simp)
  clear hb1
  go_wp2_with fail
  refine (bounded_some c _).mono ?_
  rintro e w2 ⟨d, hd, rfl, hb2⟩
  have Hd := Lib.hid (Cfg.made_ok c)
  rw [← hd] at Hd
  clear hd
  have hb2c : w1.heap.size ≤ w2.heap.size := hb2.size
  have hk2 : Blk w2 w.heap.size 30 #[.int .i64 c.v, .int .i64 c.base, .int .i64 c.most, .int .i64 c.tries, .int .i64 c.losses, .int .i64 c.wait, .int .i64 c.raise] := Blk.below_ (Blk.below_ (Blk.new w 30 _) hb1') hb2
  have x2 : ∀ i, w2.cell? ⟨w.heap.size, i, none⟩ = (#[.int .i64 c.v, .int .i64 c.base, .int .i64 c.most, .int .i64 c.tries, .int .i64 c.losses, .int .i64 c.wait, .int .i64 c.raise] : Array Value)[i]? := fun i => hk2.cell i
  have y2 : ∀ i, w2.frozen? ⟨w.heap.size, i, none⟩ = false := fun i => hk2.frozen i
  clear x1
  have HK2 := Lib.hid hk2
  have B2 := Lib.hid (B1.out.trans (hb2.mono (by omega)))
  clear hk2 hb2 hb1' B1
  go_wp2_with fail
  refine calls_named fun W hW => ?_
  have hkW : Blk W w.heap.size 30 #[.int .i64 d.v, .int .i64 d.base, .int .i64 d.most, .int .i64 d.tries, .int .i64 d.losses, .int .i64 d.wait, .int .i64 d.raise] := by
    rw [hW]
    have q := ((((((HK2.out.set_ 0 (.int .i64 d.v)).set_ 1 (.int .i64 d.base)).set_ 2 (.int .i64 d.most)).set_ 3 (.int .i64 d.tries)).set_ 4 (.int .i64 d.losses)).set_ 5 (.int .i64 d.wait)).set_ 6 (.int .i64 d.raise)
    exact q
  have bW : Below w.heap.size w W := by
    rw [hW]
    exact ((((((B2.out.setCell (by simp) _).setCell (by simp) _).setCell (by simp) _).setCell (by simp) _).setCell (by simp) _).setCell (by simp) _).setCell (by simp) _
  have HKW := Lib.hid hkW
  have BW := Lib.hid bW
  have hlW : w.heap.size < W.heap.size := hkW.lt
  clear hkW bW hW x2 y2 HK2 B2
  refine (new_calls d W).mono ?_
  rintro e w3 hM
  obtain ⟨g, rfl, hg, hI, hb3⟩ := hM.1 Hd.out.1
  clear hM
  as_aux_lemma =>
  have hk3 : Blk w3 w.heap.size 30 _ := HKW.out.below_ hb3
  have HW3 : Hid (HW w w3 g d d.path) := Lib.hid ⟨hI, hk3, BW.out.trans (hb3.mono BW.out.size), by omega⟩
  clear hk3 hI hb3 BW HKW
  obtain ⟨b1, b2, b3, b4, b5, b6, b7⟩ : floorOf d.v ≤ d.base ∧ d.base ≤ d.most ∧ d.most ≤ 65535 ∧ 0 < floorOf d.v ∧ 1 ≤ d.losses ∧ d.losses ≤ 64 ∧ d.wait ≤ 100 := ⟨Hd.out.1.base, Hd.out.1.most, Hd.out.1.most1, (floor_pos d.v).1, Hd.out.1.losses.1, Hd.out.1.losses.2, Hd.out.2.1⟩
  have q3 : ∀ k, w3.cell? ⟨w.heap.size, k, none⟩ = (#[.int .i64 d.v, .int .i64 d.base, .int .i64 d.most, .int .i64 d.tries, .int .i64 d.losses, .int .i64 d.wait, .int .i64 d.raise] : Array Value)[k]? := fun k => HW3.out.box.cell k
  dsimp only
  go_wp2_with fail
  refine (rest_in m0 d.base 65535 _ (by omega) (by omega) (by decide)).mono ?_
  rintro e w' ⟨m, rfl, m1, m2, rfl⟩
  obtain ⟨t, T, j, hrun, hj, hF, hT, hcf, hT0, hT1, hti⟩ := settled_from (talkOf 0 fun _ => false) (most := 1048576) Hd.out.1 Hd.out.2.1 m1 (by decide) (by decide)
  have HR := Lib.hid hrun
  have HF := Lib.hid hF
  have HT := Lib.hid hT
  have HC := Lib.hid hcf
  have HTI := Lib.hid hti
  have HS3 : Hid (t.state = 3) := Lib.hid hF.st
  have htb : t.base = d.base ∧ t.mlosses = d.losses := by rw [← hcf]; exact ⟨rfl, rfl⟩
  have HTB := Lib.hid htb
  have t1 : d.base ≤ t.low := by
    have h1 : t.base ≤ t.most := by unfold Inv at hti; omega
    have h2 := htb.1
    have h3 := hF.low
    omega
  have t2 : t.low ≤ 65535 := by rw [hF.low]; omega
  clear hrun hF hT hcf hti htb
  go_wp2_with fail
  refine (settle_calls 0 d.path d g m none 0 0 (fun _ => false) 0 1048576 (t, T, j) _ HW3.out.is (path_inv Hd.out.1) rfl b7 (show (0 : Int) ≤ 0 by decide) (by decide) (by decide) (by decide) (by decide) (Lib.hid fun h => absurd h (by decide)) (by decide) HR).mono ?_
  rintro e w4 ⟨rfl, hp4⟩
  have HW4 := Lib.hid (HW3.out.put hp4)
  clear hp4 q3 HW3 hlW hz1 hb2c hg HR
  have q4 : ∀ k, w4.cell? ⟨w.heap.size, k, none⟩ = (#[.int .i64 d.v, .int .i64 d.base, .int .i64 d.most, .int .i64 d.tries, .int .i64 d.losses, .int .i64 d.wait, .int .i64 d.raise] : Array Value)[k]? := fun k => HW4.out.box.cell k
  have j1 : decide (j < 0) = false := decide_eq_false (by omega)
  have j2 : decide (0 ≤ j) = true := decide_eq_true hj
  dsimp only
  go_upto_region 10 with fail
  by_cases htop : t.low = d.base
  · as_aux_lemma =>
    have k1 : (t.low == d.base) = true := beq_iff_eq.2 htop
    clear htop
    go_quiet ((go_at_call 15; exact Calls.quiet_of_same ((size_fin t g _ (by exact HW4.out.is) HS3).mono fun _ _ h => ⟨h.1, h.2.symm⟩)))
    go_wp2_with fail
    go_ret
    exact ⟨rfl, bdn HW4.out.below _⟩
  have k1 : (t.low == d.base) = false := beq_eq_false_iff_ne.2 htop
  have t3 : d.base < t.low := by omega
  clear htop
  as_aux_lemma =>
  go_quiet ((go_at_call 15; exact Calls.quiet_of_same ((size_fin t g _ (by exact HW4.out.is) HS3).mono fun _ _ h => ⟨h.1, h.2.symm⟩)))
  go_upto_region 12 with fail
  refine wp_named fun w5 hw5 => ?_
  have HW5 : Hid (HW w w5 g d (Lz t 0)) := Lib.hid (by rw [hw5, Lz.self HF.out.lo]; exact HW4.out.drewN _)
  have HW5' : Hid (Is w5 g t) := Lib.hid (by have := HW5.out.is; rw [Lz.self HF.out.lo] at this; exact this)
  clear hw5 HW4 q4
  have q5 : ∀ k, w5.cell? ⟨w.heap.size, k, none⟩ = (#[.int .i64 d.v, .int .i64 d.base, .int .i64 d.most, .int .i64 d.tries, .int .i64 d.losses, .int .i64 d.wait, .int .i64 d.raise] : Array Value)[k]? := fun k => HW5.out.box.cell k
  go_wp2_with (first
    | (go_at_call 15; (with_reducible refine (size_fin t g _ HW5'.out HS3).mono ?_); rintro e w' ⟨rfl, rfl⟩)
    | (go_at_call 18; (with_reducible refine (rest_in got0 0 (d.losses - 1) _ (by decide) (by omega) (by omega)).mono ?_); rintro e w' ⟨gt, rfl, g1, g2, rfl⟩))
  have HL := Lib.hid (show t.low ≤ 65535 from t2)
  have htn : t.now ≤ 1099511627776 := by rw [HT.out]; omega
  have HTN := Lib.hid htn
  clear q5 HW5' htn k1 j1 j2
  go_wp2_with fail
  go_loopg [15] gt.toNat (fun kq v15 wr => ∃ i : Nat, v15 = .int .i64 i ∧ i + kq = gt ∧ Hid (HW w wr g d (Lz t i)))
  case atStart => exact ⟨0, rfl, by omega, HW5⟩
  case round =>
    clear HW5
    obtain ⟨i, rfl, hi, hW⟩ := hrel
    have hgw : ¬ w.heap.size = g := by have := hW.out.g0; omega
    by_cases hlt : (i : Int) < gt
    · as_aux_lemma =>
      have e1 : decide ((i : Int) < gt) = true := decide_eq_true hlt
      have q0 : ∀ k, wr.cell? ⟨w.heap.size, k, none⟩ = (#[.int .i64 d.v, .int .i64 d.base, .int .i64 d.most, .int .i64 d.tries, .int .i64 d.losses, .int .i64 d.wait, .int .i64 d.raise] : Array Value)[k]? := fun k => hW.out.box.cell k
      have HI : Hid (Inv 350 (Lz t i)) := Lib.hid (Lz.inv HTI.out (by omega) (by rw [HTB.out.2]; omega))
      have HX : Hid (∀ z, d.base + 1 ≤ z → z ≤ t.low → Hid ((Lz t i).lostA z T = ((false, 0), Lz t ((i : Int) + 1)))) := Lib.hid (fun z z1 z2 => Lib.hid (by rw [← HT.out]; exact lost_more HTN.out HS3.out (by rw [HTB.out.1]; omega) z2 (by rw [HTB.out.2]; omega)))
      go_wp2_with (first
        | (go_at_call 18; (with_reducible refine (rest_in _ (d.base + 1) t.low _ (by omega) (by omega) (by omega)).mono ?_); rintro e w' ⟨z, rfl, z1, z2, rfl⟩)
        | (go_at_call 23; (with_reducible refine (lost_go 350 (Lz t i) (Lz t ((i : Int) + 1)) g z T false _ hW.out.is HI.out (by decide) (HX.out z z1 z2)).mono ?_); rintro e w7 ⟨rfl, hp7⟩))
      go_roundg (gk - 1)
      case measure => omega
      case rel => exact ⟨i + 1, by go_num, by omega, Lib.hid (hW.out.put hp7)⟩
    · as_aux_lemma =>
      have e1 : decide ((i : Int) < gt) = false := decide_eq_false hlt
      have q0 : ∀ k, wr.cell? ⟨w.heap.size, k, none⟩ = (#[.int .i64 d.v, .int .i64 d.base, .int .i64 d.most, .int .i64 d.tries, .int .i64 d.losses, .int .i64 d.wait, .int .i64 d.raise] : Array Value)[k]? := fun k => hW.out.box.cell k
      have HI : Hid (Inv 350 (Lz t i)) := Lib.hid (Lz.inv HTI.out (by omega) (by rw [HTB.out.2]; omega))
      have HX : Hid ((Lz t i).gotA t.low T = (0, Lz t 0)) := Lib.hid (by rw [← HT.out]; exact got_fin HTN.out HS3.out (by rw [HTB.out.1]; omega) (Int.le_refl _))
      go_wp2_with (go_at_call 24; (with_reducible refine (got_go 350 (Lz t i) (Lz t 0) g t.low T _ hW.out.is HI.out (by decide) HX).mono ?_); rintro e w7 ⟨rfl, hp7⟩)
      have HW7 := Lib.hid (hW.out.put hp7)
      clear hp7 hW q0 HI HX
      go_wp2_with fail
      go_loopg [18] d.losses.toNat (fun kq v18 wr => ∃ l : Nat, v18 = .int .i64 l ∧ l + kq = d.losses ∧ Hid (HW w wr g d (At t d.losses l)))
      case atStart => exact ⟨0, rfl, by omega, Lib.hid (by unfold At; rw [if_pos (by omega)]; exact HW7.out)⟩
      case round =>
        as_aux_lemma =>
        clear HW7
        obtain ⟨l, rfl, hl, hW⟩ := hrel
        by_cases hlt2 : (l : Int) < d.losses
        · as_aux_lemma =>
          have e1 : decide ((l : Int) < d.losses) = true := decide_eq_true hlt2
          have q0 : ∀ k, wr.cell? ⟨w.heap.size, k, none⟩ = (#[.int .i64 d.v, .int .i64 d.base, .int .i64 d.most, .int .i64 d.tries, .int .i64 d.losses, .int .i64 d.wait, .int .i64 d.raise] : Array Value)[k]? := fun k => hW.out.box.cell k
          have hWl : Hid (HW w wr g d (Lz t l)) := Lib.hid (by have := hW.out; unfold At at this; rw [if_pos hlt2] at this; exact this)
          have HI : Hid (Inv 350 (Lz t l)) := Lib.hid (Lz.inv HTI.out (by omega) (by rw [HTB.out.2]; omega))
          clear hW
          go_wp2_with fail
          clear q0
          go_loopg [19] (min n 9) (fun kq v19 wx => ∃ k : Nat, v19 = .int .i64 k ∧ k + kq = min n 9 ∧ Hid (HW w wx g d (Lz t l)))
          case atStart => exact ⟨0, rfl, by omega, hWl⟩
          case round =>
            clear hWl
            obtain ⟨k, rfl, hk, hX⟩ := hrel
            have q1 : ∀ k, wr.cell? ⟨w.heap.size, k, none⟩ = (#[.int .i64 d.v, .int .i64 d.base, .int .i64 d.most, .int .i64 d.tries, .int .i64 d.losses, .int .i64 d.wait, .int .i64 d.raise] : Array Value)[k]? := fun k => hX.out.box.cell k
            by_cases hkn : k < n
            · have e2 : decide ((k : Int) < (n : Int)) = true := decide_eq_true (by omega)
              by_cases hk9 : k < 9
              · have e3 : decide ((k : Int) < 9) = true := decide_eq_true (by omega)
                obtain ⟨a, rfl, hv⟩ := hs.out (by omega)
                have hc0 := hv k hkn
                have hab : (a.add k).block < w.heap.size := World.block_lt_of_cell? w _ hc0
                have hc : wr.cell? (a.add k) = some (.int .i64 (V k)) := (hX.out.below.cell hab).trans hc0
                generalize V k = z at hc
                clear hv hc0 hab
                by_cases y1 : d.base < z
                · by_cases y2 : z ≤ t.low
                  · as_aux_lemma =>
                    have e4 : decide (d.base < z) = true := decide_eq_true y1
                    have e5 : decide (z ≤ t.low) = true := decide_eq_true y2
                    have HX1 : Hid ((Lz t l).lostA (t.low + z) T = ((false, 0), Lz t l)) := Lib.hid (by rw [← HT.out]; exact lost_other HTN.out (by rw [HTB.out.1]; omega))
                    have HX2 : Hid ((Lz t l).gotA (t.low + z) T = (0, Lz t l)) := Lib.hid (by rw [← HT.out]; exact got_other HTN.out (by rw [HTB.out.1]; omega))
                    go_wp2_with (first
                      | (go_at_call 23; (with_reducible refine (lost_go 350 (Lz t l) (Lz t l) g (t.low + z) T false _ hX.out.is HI.out (by decide) HX1).mono ?_); rintro e w7 ⟨rfl, hp7⟩)
                      | (go_at_call 24; (with_reducible refine (got_go 350 (Lz t l) (Lz t l) g (t.low + z) T _ hp7.blk HI.out (by decide) HX2).mono ?_); rintro e w8 ⟨rfl, hp8⟩))
                    go_roundg (min n 9 - k - 1)
                    case measure => omega
                    case rel => exact ⟨k + 1, by go_num, by omega, Lib.hid ((hX.out.put hp7).put hp8)⟩
                  · as_aux_lemma =>
                    have e4 : decide (d.base < z) = true := decide_eq_true y1
                    have e5 : decide (z ≤ t.low) = false := decide_eq_false y2
                    have HX1 : Hid ((Lz t l).lostA z T = ((false, 0), Lz t l)) := Lib.hid (by rw [← HT.out]; exact lost_other HTN.out (by rw [HTB.out.1]; omega))
                    have HX2 : Hid ((Lz t l).gotA z T = (0, Lz t l)) := Lib.hid (by rw [← HT.out]; exact got_other HTN.out (by rw [HTB.out.1]; omega))
                    go_wp2_with (first
                      | (go_at_call 23; (with_reducible refine (lost_go 350 (Lz t l) (Lz t l) g z T false _ hX.out.is HI.out (by decide) HX1).mono ?_); rintro e w7 ⟨rfl, hp7⟩)
                      | (go_at_call 24; (with_reducible refine (got_go 350 (Lz t l) (Lz t l) g z T _ hp7.blk HI.out (by decide) HX2).mono ?_); rintro e w8 ⟨rfl, hp8⟩))
                    go_roundg (min n 9 - k - 1)
                    case measure => omega
                    case rel => exact ⟨k + 1, by go_num, by omega, Lib.hid ((hX.out.put hp7).put hp8)⟩
                · as_aux_lemma =>
                  have e4 : decide (d.base < z) = false := decide_eq_false y1
                  have HX1 : Hid ((Lz t l).lostA z T = ((false, 0), Lz t l)) := Lib.hid (by rw [← HT.out]; exact lost_other HTN.out (by rw [HTB.out.1]; omega))
                  have HX2 : Hid ((Lz t l).gotA z T = (0, Lz t l)) := Lib.hid (by rw [← HT.out]; exact got_other HTN.out (by rw [HTB.out.1]; omega))
                  go_wp2_with (first
                    | (go_at_call 23; (with_reducible refine (lost_go 350 (Lz t l) (Lz t l) g z T false _ hX.out.is HI.out (by decide) HX1).mono ?_); rintro e w7 ⟨rfl, hp7⟩)
                    | (go_at_call 24; (with_reducible refine (got_go 350 (Lz t l) (Lz t l) g z T _ hp7.blk HI.out (by decide) HX2).mono ?_); rintro e w8 ⟨rfl, hp8⟩))
                  go_roundg (min n 9 - k - 1)
                  case measure => omega
                  case rel => exact ⟨k + 1, by go_num, by omega, Lib.hid ((hX.out.put hp7).put hp8)⟩
              · have e3 : decide ((k : Int) < 9) = false := decide_eq_false (by omega)
                by_cases hlast : (l : Int) + 1 < d.losses
                · as_aux_lemma =>
                  have e6 : ((l : Int) == d.losses - 1) = false := beq_eq_false_iff_ne.2 (by omega)
                  have HX : Hid (∀ z, d.base + 1 ≤ z → z ≤ t.low → Hid ((Lz t l).lostA z T = ((false, 0), Lz t ((l : Int) + 1)))) := Lib.hid (fun z z1 z2 => Lib.hid (by rw [← HT.out]; exact lost_more HTN.out HS3.out (by rw [HTB.out.1]; omega) z2 (by rw [HTB.out.2]; omega)))
                  have HAt : Hid (At t d.losses ((l + 1 : Nat) : Int) = Lz t ((l : Int) + 1)) := Lib.hid (by unfold At; rw [if_pos (by omega)]; rfl)
                  go_wp2_with (first
                    | (go_at_call 18; (with_reducible refine (rest_in _ (d.base + 1) t.low _ (by omega) (by omega) (by omega)).mono ?_); rintro e w' ⟨z, rfl, z1, z2, rfl⟩)
                    | (go_at_call 23; (with_reducible refine (lost_go 350 (Lz t l) (Lz t ((l : Int) + 1)) g z T false _ hX.out.is HI.out (by decide) (HX.out z z1 z2)).mono ?_); rintro e w7 ⟨rfl, hp7⟩; (have q7 : ∀ k, w7.cell? ⟨w.heap.size, k, none⟩ = (#[.int .i64 d.v, .int .i64 d.base, .int .i64 d.most, .int .i64 d.tries, .int .i64 d.losses, .int .i64 d.wait, .int .i64 d.raise] : Array Value)[k]? := fun k => (hX.out.put hp7).box.cell k)))
                  go_roundg (d.losses.toNat - l - 1)
                  case measure => omega
                  case rel => exact ⟨l + 1, by go_num, by omega, Lib.hid (by rw [HAt.out]; exact hX.out.put hp7)⟩
                · as_aux_lemma =>
                  have e6 : ((l : Int) == d.losses - 1) = true := beq_iff_eq.2 (by omega)
                  have HX : Hid (∀ z, d.base + 1 ≤ z → z ≤ t.low → Hid ((Lz t l).lostA z T = ((true, 0), holed t))) := Lib.hid (fun z z1 z2 => Lib.hid (by rw [← HT.out]; exact lost_hole HTN.out HS3.out (by rw [HTB.out.1]; omega) z2 (by rw [HTB.out.2]; omega)))
                  have HAt : Hid (At t d.losses ((l + 1 : Nat) : Int) = holed t) := Lib.hid (by unfold At; rw [if_neg (by omega)])
                  go_wp2_with (first
                    | (go_at_call 18; (with_reducible refine (rest_in _ (d.base + 1) t.low _ (by omega) (by omega) (by omega)).mono ?_); rintro e w' ⟨z, rfl, z1, z2, rfl⟩)
                    | (go_at_call 23; (with_reducible refine (lost_go 350 (Lz t l) (holed t) g z T true _ hX.out.is HI.out (by decide) (HX.out z z1 z2)).mono ?_); rintro e w7 ⟨rfl, hp7⟩; (have q7 : ∀ k, w7.cell? ⟨w.heap.size, k, none⟩ = (#[.int .i64 d.v, .int .i64 d.base, .int .i64 d.most, .int .i64 d.tries, .int .i64 d.losses, .int .i64 d.wait, .int .i64 d.raise] : Array Value)[k]? := fun k => (hX.out.put hp7).box.cell k)))
                  go_roundg (d.losses.toNat - l - 1)
                  case measure => omega
                  case rel => exact ⟨l + 1, by go_num, by omega, Lib.hid (by rw [HAt.out]; exact hX.out.put hp7)⟩
            · have e2 : decide ((k : Int) < (n : Int)) = false := decide_eq_false (by omega)
              by_cases hlast : (l : Int) + 1 < d.losses
              · as_aux_lemma =>
                have e6 : ((l : Int) == d.losses - 1) = false := beq_eq_false_iff_ne.2 (by omega)
                have HX : Hid (∀ z, d.base + 1 ≤ z → z ≤ t.low → Hid ((Lz t l).lostA z T = ((false, 0), Lz t ((l : Int) + 1)))) := Lib.hid (fun z z1 z2 => Lib.hid (by rw [← HT.out]; exact lost_more HTN.out HS3.out (by rw [HTB.out.1]; omega) z2 (by rw [HTB.out.2]; omega)))
                have HAt : Hid (At t d.losses ((l + 1 : Nat) : Int) = Lz t ((l : Int) + 1)) := Lib.hid (by unfold At; rw [if_pos (by omega)]; rfl)
                go_wp2_with (first
                  | (go_at_call 18; (with_reducible refine (rest_in _ (d.base + 1) t.low _ (by omega) (by omega) (by omega)).mono ?_); rintro e w' ⟨z, rfl, z1, z2, rfl⟩)
                  | (go_at_call 23; (with_reducible refine (lost_go 350 (Lz t l) (Lz t ((l : Int) + 1)) g z T false _ hX.out.is HI.out (by decide) (HX.out z z1 z2)).mono ?_); rintro e w7 ⟨rfl, hp7⟩; (have q7 : ∀ k, w7.cell? ⟨w.heap.size, k, none⟩ = (#[.int .i64 d.v, .int .i64 d.base, .int .i64 d.most, .int .i64 d.tries, .int .i64 d.losses, .int .i64 d.wait, .int .i64 d.raise] : Array Value)[k]? := fun k => (hX.out.put hp7).box.cell k)))
                go_roundg (d.losses.toNat - l - 1)
                case measure => omega
                case rel => exact ⟨l + 1, by go_num, by omega, Lib.hid (by rw [HAt.out]; exact hX.out.put hp7)⟩
              · as_aux_lemma =>
                have e6 : ((l : Int) == d.losses - 1) = true := beq_iff_eq.2 (by omega)
                have HX : Hid (∀ z, d.base + 1 ≤ z → z ≤ t.low → Hid ((Lz t l).lostA z T = ((true, 0), holed t))) := Lib.hid (fun z z1 z2 => Lib.hid (by rw [← HT.out]; exact lost_hole HTN.out HS3.out (by rw [HTB.out.1]; omega) z2 (by rw [HTB.out.2]; omega)))
                have HAt : Hid (At t d.losses ((l + 1 : Nat) : Int) = holed t) := Lib.hid (by unfold At; rw [if_neg (by omega)])
                go_wp2_with (first
                  | (go_at_call 18; (with_reducible refine (rest_in _ (d.base + 1) t.low _ (by omega) (by omega) (by omega)).mono ?_); rintro e w' ⟨z, rfl, z1, z2, rfl⟩)
                  | (go_at_call 23; (with_reducible refine (lost_go 350 (Lz t l) (holed t) g z T true _ hX.out.is HI.out (by decide) (HX.out z z1 z2)).mono ?_); rintro e w7 ⟨rfl, hp7⟩; (have q7 : ∀ k, w7.cell? ⟨w.heap.size, k, none⟩ = (#[.int .i64 d.v, .int .i64 d.base, .int .i64 d.most, .int .i64 d.tries, .int .i64 d.losses, .int .i64 d.wait, .int .i64 d.raise] : Array Value)[k]? := fun k => (hX.out.put hp7).box.cell k)))
                go_roundg (d.losses.toNat - l - 1)
                case measure => omega
                case rel => exact ⟨l + 1, by go_num, by omega, Lib.hid (by rw [HAt.out]; exact hX.out.put hp7)⟩
        · as_aux_lemma =>
          have e1 : decide ((l : Int) < d.losses) = false := decide_eq_false hlt2
          have q0 : ∀ k, wr.cell? ⟨w.heap.size, k, none⟩ = (#[.int .i64 d.v, .int .i64 d.base, .int .i64 d.most, .int .i64 d.tries, .int .i64 d.losses, .int .i64 d.wait, .int .i64 d.raise] : Array Value)[k]? := fun k => hW.out.box.cell k
          have hWl : Hid (HW w wr g d (holed t)) := Lib.hid (by have := hW.out; unfold At at this; rw [if_neg hlt2] at this; exact this)
          have HI : Hid (Inv 350 (holed t)) := Lib.hid (holed_inv HTI.out)
          have HX : Hid ((holed t).nextA T = ((d.base, t.number + 1, 0), sent (holed t) T)) := Lib.hid (by rw [← HT.out, holed_next HTI.out, HTB.out.1])
          have HZ : Hid ((sent (holed t) T).size = d.base) := Lib.hid HTB.out.1
          have HY : Hid ((sent (holed t) T).state = 1) := Lib.hid rfl
          clear hW
          go_wp2_with (go_at_call 22; (with_reducible refine (next_go 350 (holed t) (sent (holed t) T) g T d.base (t.number + 1) _ hWl.out.is HI.out (by decide) HX).mono ?_); rintro e w7 ⟨rfl, hp7⟩; (have q7 : ∀ k, w7.cell? ⟨w.heap.size, k, none⟩ = (#[.int .i64 d.v, .int .i64 d.base, .int .i64 d.most, .int .i64 d.tries, .int .i64 d.losses, .int .i64 d.wait, .int .i64 d.raise] : Array Value)[k]? := fun k => (hWl.out.put hp7).box.cell k))
          have HW8 := Lib.hid (hWl.out.put hp7)
          clear hp7
          go_quiet (first
            | (go_at_call 15; exact Calls.quiet_of_same ((size_base _ g d.base _ (by exact HW8.out.is) HZ).mono fun _ _ h => ⟨h.1, h.2.symm⟩))
            | (go_at_call 14; exact Calls.quiet_of_same ((state_is _ g 1 _ (by exact HW8.out.is) HY).mono fun _ _ h => ⟨h.1, h.2.symm⟩)))
          go_wp2_with fail
          go_ret
          exact ⟨rfl, bdn HW8.out.below _⟩
end Go.Proofs.Ytmanojnhjhpokaa.PB
