/- Contract of settle: it comes to what the plain run comes to. Conditions: the path lies in one block that is known whole, the invariant holds, the numbers are small. -/
import Derived.Test.YtmanojnhjhpokaaSeA
import Derived.Test.YtmanojnhjhpokaaWiB
import Derived.Deep.LoopGhost
import Derived.Deep.DeepCutAuto
import Derived.Deep.CutBlock
namespace Go.Proofs.Ytmanojnhjhpokaa.PB
set_option linter.unusedVariables false
set_option linter.unusedSimpArgs false
open Go.RowKit
def talkOf (L : Nat) (S : Nat → Bool) (n : Int) : Bool := decide (0 < L) && !S (n % (L : Int)).toNat
theorem next_go (K : Int) (s t : Pt) (g : Nat) (now a b : Int) (w : World) (h : Is w g s) (hi : Inv K s) (hK : K + 1 ≤ 1125899906842624) (hx : Hid (s.nextA now = ((a, b, 0), t))) :
    Calls Try.prog 22 #[.pointer (some ⟨g, 0, none⟩), .int .i64 now] w fun e w' => e = .returned (.tuple #[.int .i64 a, .int .i64 b, .int .i64 0]) ∧ Put w w' g 66 t.cells := by
  have := next_any K s g now w h hi hK
  rw [hx.out] at this
  exact this
theorem acked_go (K : Int) (s t : Pt) (g : Nat) (p now : Int) (y : Bool) (w : World) (h : Is w g s) (hi : Inv K s) (hK : K ≤ 1125899906842624) (hx : Hid (s.ackedA p now = ((y, 0), t))) :
    Calls Try.prog 28 #[.pointer (some ⟨g, 0, none⟩), .int .i64 p, .int .i64 now] w fun e w' => e = .returned (.tuple #[.bool y, .int .i64 0]) ∧ Put w w' g 66 t.cells := by
  have := acked_any K s g p now w h hi hK
  rw [hx.out] at this
  exact this
theorem tooBig_go (K : Int) (s t : Pt) (g : Nat) (p m now : Int) (y : Bool) (w : World) (h : Is w g s) (hi : Inv K s) (hK : K ≤ 1125899906842624) (hx : Hid (s.tooBigA p m now = ((y, 0), t))) :
    Calls Try.prog 29 #[.pointer (some ⟨g, 0, none⟩), .int .i64 p, .int .i64 m, .int .i64 now] w fun e w' => e = .returned (.tuple #[.bool y, .int .i64 0]) ∧ Put w w' g 66 t.cells := by
  have := tooBig_any K s g p m now w h hi hK
  rw [hx.out] at this
  exact this
/-- What holds at the head of a round of settle. -/
structure SeW (w wr : World) (g : Nat) (c : Cfg) (s : Pt) (K now : Int) : Prop where
  put : Put w wr g 66 s.cells
  box : Blk wr w.heap.size 30 #[.int .i64 c.v, .int .i64 c.base, .int .i64 c.most, .int .i64 c.tries, .int .i64 c.losses, .int .i64 c.wait, .int .i64 c.raise]
  inv : Inv K s
  cfg : s.cfg = c
  now : s.now ≤ now
  lt : g < w.heap.size
theorem SeW.step {w wr w1 : World} {g : Nat} {c : Cfg} {s t : Pt} {K K' now now' : Int} (h : SeW w wr g c s K now) (hp : Put wr w1 g 66 t.cells) (hi : Inv K' t) (hc : t.cfg = s.cfg) (hn : t.now ≤ now') : SeW w w1 g c t K' now' :=
  ⟨h.put.trans hp, put_blk hp h.box (by have := h.lt; omega), hi, hc.trans h.cfg, hn, h.lt⟩
def Silent (w : World) (g : Nat) (A : Option Addr) (L : Nat) (S : Nat → Bool) : Prop := 0 < L → ∃ a, A = some a ∧ a.block < w.heap.size ∧ a.block ≠ g ∧ ∀ i, i < L → w.cell? (a.add i) = some (.bool (S i))
theorem cell_put {w w1 : World} {g : Nat} {t : TypeId} {cs : Array Value} (h : Put w w1 g t cs) (a : Addr) (hb : a.block < w.heap.size) (hne : a.block ≠ g) : w1.cell? a = w.cell? a := World.cell?_of_block (h.rest a.block hb hne)
theorem block_add (a : Addr) (i : Nat) : (a.add i).block = a.block := by unfold Addr.add; split <;> rfl
set_option maxRecDepth 100000 in
set_option maxHeartbeats 16000000 in
theorem settle_calls (K0 : Int) (s0 : Pt) (c : Cfg) (g : Nat) (m : Int) (A : Option Addr) (L cap : Nat) (S : Nat → Bool) (now0 most : Int) (R : Pt × Int × Int) (w : World) (h : Is w g s0) (hi : Inv K0 s0) (hc : s0.cfg = c) (hw1 : c.wait ≤ 100) (hn : s0.now ≤ now0) (hm0 : 0 ≤ most) (hm1 : most ≤ 1048576) (hK : K0 + most + 2 ≤ 1125899906842624) (hx : now0 + 100 * (most + 2) ≤ 1099511627776)
    (hS : Hid (Silent w g A L S)) (hL : L ≤ 140737488355328) (hR : Hid (srun (talkOf L S) m (most + 1).toNat s0 now0 0 = R)) :
    Calls Try.prog 20 #[.pointer (some ⟨g, 0, none⟩), .agg #[.int .i64 c.v, .int .i64 c.base, .int .i64 c.most, .int .i64 c.tries, .int .i64 c.losses, .int .i64 c.wait, .int .i64 c.raise], .int .i64 m, .slice A L cap, .int .i64 now0, .int .i64 most] w fun e w' =>
      e = .returned (.tuple #[.int .i64 R.2.1, .int .i64 R.2.2]) ∧ Put w w' g 66 R.1.cells := by
  have hlg : g < w.heap.size := h.lt
  have hnow0 : 0 ≤ now0 := by unfold Inv at hi; omega
  have hW : Hid (SeW w (w.alloc (.cells #[.int .i64 c.v, .int .i64 c.base, .int .i64 c.most, .int .i64 c.tries, .int .i64 c.losses, .int .i64 c.wait, .int .i64 c.raise] 30)) g c s0 K0 now0) := Lib.hid ⟨(Put.refl h).alloc _, Blk.new w 30 _, hi, hc, hn, hlg⟩
  clear h hi hc hn
  go_enter Try.func20, Try.ntmps20
  go_wp2_with fail
  go_loopg [4, 14] (most + 1).toNat (fun kq v4 v14 wr => ∃ (s : Pt) (now n : Int), v4 = .int .i64 now ∧ v14 = .int .i64 n ∧ 0 ≤ now ∧ 0 ≤ n ∧ n + kq = most + 1 ∧ now + 100 * (kq + 1) ≤ 1099511627776 ∧ Hid (srun (talkOf L S) m kq s now n = R) ∧ Hid (SeW w wr g c s (K0 + n) now))
  case atStart => exact ⟨s0, now0, 0, rfl, rfl, hnow0, by omega, by omega, by omega, hR, by simpa using hW⟩
  case round =>
    clear hR hW hx hnow0
    obtain ⟨s, now, n, rfl, rfl, hn0, hn1, hk, hx, hR, hW⟩ := hrel
    cases gk with
    | zero =>
      as_aux_lemma =>
      have e1 : decide (n ≤ most) = false := decide_eq_false (by omega)
      have hr := hR.out
      unfold srun at hr
      go_wp2_with fail
      go_ret2
      exact ⟨by rw [← hr]; rfl, by rw [← hr]; exact hW.out.put⟩
    | succ k =>
      have e1 : decide (n ≤ most) = true := decide_eq_true (by omega)
      have hcf := cfg_eq (s := c.path) (t := s) hW.out.cfg
      have hwt : s.wait = c.wait := by have := hW.out.cfg; unfold Pt.cfg at this; rw [← this]
      have hwp : 1 ≤ s.wait := by have := hW.out.inv; unfold Inv at this; omega
      obtain ⟨he0, hT⟩ := nextA_told (now := now) hW.out.inv hW.out.now (by omega)
      obtain ⟨a, b, t, hnx⟩ : ∃ a b t, s.nextA now = ((a, b, 0), t) := ⟨_, _, _, by rw [← he0]⟩
      have hit : Inv (K0 + n + 1) t := by have := hW.out.inv.nextA (n := now); rw [hnx] at this; exact this
      rw [hnx] at hT
      have hr := hR.out
      unfold srun at hr
      rw [hnx] at hr
      dsimp only at hr hT
      have HN := Lib.hid hnx
      have HT := Lib.hid hT
      have HI := Lib.hid hit
      have HC := Lib.hid hcf
      clear he0 hnx hT hit hcf hR
      by_cases ha : a = 0
      · as_aux_lemma =>
        have a1 : (a == 0) = true := beq_iff_eq.2 ha
        rw [if_pos ha] at hr
        have HR := Lib.hid hr
        clear hr ha
        go_wp2_with (go_at_call 22; (with_reducible refine (next_go (K0 + n) s t g now a b _ hW.out.put.blk hW.out.inv (by omega) HN).mono ?_); rintro e w2 ⟨rfl, hp2⟩)
        go_ret2
        exact ⟨by rw [← HR.out]; rfl, by rw [← HR.out]; exact hW.out.put.trans hp2⟩
      rw [if_neg ha] at hr
      obtain ⟨t1, t2, t3, t4, t5, t6, t7⟩ := HT.out.none.resolve_left ha
      have a1 : (a == 0) = false := beq_eq_false_iff_ne.2 ha
      have a2 : decide (a < c.base) = false := decide_eq_false (by have := HC.out.2.1; rw [this] at t1; exact Int.not_lt.2 t1)
      have a3 : decide (c.most < a) = false := decide_eq_false (by have := HC.out.2.2; rw [this] at t2; exact Int.not_lt.2 t2)
      have H4 := Lib.hid t4
      have H5 := Lib.hid t5
      have H7 := Lib.hid t7
      clear t1 t2 t3 t4 t5 t6 t7 ha
      by_cases hm : a ≤ m
      · as_aux_lemma =>
        have a4 : decide (a ≤ m) = true := decide_eq_true hm
        rw [if_pos hm] at hr
        obtain ⟨k1, k2, k3⟩ := acked_says (p := b) HI.out
        have hy : 0 < t.unum ∧ b = t.unum := ⟨H4.out, H5.out.symm⟩
        have hak := ackedA_go (p := b) HT.out.now (show now ≤ 1099511627776 by omega)
        rw [k1, decide_eq_true hy] at hak
        obtain ⟨q1, q2, q3, q4, q5, q6⟩ := k3 hy
        have hia := HI.out.acked (p := b)
        obtain ⟨u, hu⟩ : ∃ u, u = (t.acked b).2 := ⟨_, rfl⟩
        rw [← hu] at hak q1 q3 hia
        rw [hak] at hr
        have HA := Lib.hid hak
        have HR := Lib.hid hr
        have HQ := Lib.hid (And.intro q1 (And.intro (q3.trans HT.out.now) hia))
        clear hr hm hak k1 k2 k3 hy q1 q2 q3 q4 q5 q6 hia hu
        go_wp2_with (first
          | (go_at_call 22; (with_reducible refine (next_go (K0 + n) s t g now a b _ hW.out.put.blk hW.out.inv (by omega) HN).mono ?_); rintro e w2 ⟨rfl, hp2⟩; (have q0 : ∀ k, w2.cell? ⟨w.heap.size, k, none⟩ = (#[.int .i64 c.v, .int .i64 c.base, .int .i64 c.most, .int .i64 c.tries, .int .i64 c.losses, .int .i64 c.wait, .int .i64 c.raise] : Array Value)[k]? := fun k => (put_blk hp2 hW.out.box (by omega)).cell k))
          | (go_at_call 28; (with_reducible refine (acked_go (K0 + n + 1) t u g b now true _ hp2.blk HI.out (by omega) HA).mono ?_); rintro e w3 ⟨rfl, hp3⟩))
        go_roundg k
        case measure => omega
        case rel => exact ⟨u, now, n + 1, rfl, rfl, hn0, by omega, by omega, by omega, HR, Lib.hid ((hW.out.step hp2 HI.out HT.out.cfg (Int.le_of_eq HT.out.now)).step hp3 (by rw [← Int.add_assoc]; exact HQ.out.2.2) HQ.out.1 (Int.le_of_eq HQ.out.2.1))⟩
      rw [if_neg hm] at hr
      have a4 : decide (a ≤ m) = false := decide_eq_false hm
      clear hm
      have hwc : 1 ≤ c.wait := by rw [← hwt]; exact hwp
      have htw : t.wait = c.wait := by have := HT.out.cfg; unfold Pt.cfg at this; injection this with _ _ _ _ _ e _; rw [e]; exact hwt
      have hxw := nextA_wait (now := now) HI.out H4.out (by rw [H7.out, HT.out.now]) (by rw [htw]; omega) HT.out.now (by rw [htw]; exact hwc)
      have hsum : now + t.wait - 1 = now + c.wait - 1 := by rw [htw]
      rw [hsum] at hxw
      clear hsum
      have HX := Lib.hid (Lib.hid hxw)
      have hY : Inv (K0 + n + 1) ({ t with now := now + c.wait - 1 } : Pt) := HI.out.at_ (by rw [HT.out.now]; omega) (by omega)
      have HY := Lib.hid hY
      rw [hwt, hxw] at hr
      dsimp only at hr
      clear hxw hY htw hwt hwp
      by_cases hL0 : 0 < L
      · obtain ⟨sa, rfl, sb1, sb2, sc⟩ := hS.out hL0
        have hmod0 : 0 ≤ (n + 1) % (L : Int) := Int.emod_nonneg _ (by omega)
        have hmod1 : (n + 1) % (L : Int) < (L : Int) := Int.emod_lt_of_pos _ (by omega)
        have SB := Lib.hid (And.intro sb1 sb2)
        have l0 : decide (0 < (L : Int)) = true := decide_eq_true (by omega)
        have l1 : ((L : Int) == 0) = false := beq_eq_false_iff_ne.2 (by omega)
        have l2 : ¬ (L : Int) = 0 := by omega
        have l3 : decide (0 ≤ (n + 1) % (L : Int)) = true := decide_eq_true hmod0
        have l4 : decide ((n + 1) % (L : Int) < (L : Int)) = true := decide_eq_true hmod1
        have sv := sc ((n + 1) % (L : Int)).toNat (by omega)
        by_cases hs1 : S ((n + 1) % (L : Int)).toNat = true
        · as_aux_lemma =>
          rw [hs1] at sv
          have HSV := Lib.hid sv
          rw [if_neg (by unfold talkOf; rw [hs1]; simp)] at hr
          have HR := Lib.hid hr
          clear hr sv sc hs1 sb1 sb2
          go_wp2_with (first
            | (go_at_call 22; (with_reducible refine (next_go (K0 + n) s t g now a b _ hW.out.put.blk hW.out.inv (by omega) HN).mono ?_); rintro e w2 ⟨rfl, hp2⟩; (have q0 : ∀ k, w2.cell? ⟨w.heap.size, k, none⟩ = (#[.int .i64 c.v, .int .i64 c.base, .int .i64 c.most, .int .i64 c.tries, .int .i64 c.losses, .int .i64 c.wait, .int .i64 c.raise] : Array Value)[k]? := fun k => (put_blk hp2 hW.out.box (by omega)).cell k); (have q9 : w2.cell? (sa.add ((n + 1) % (L : Int)).toNat) = some (.bool true) := by rw [cell_put (hW.out.put.trans hp2) (sa.add _) (by rw [block_add]; exact SB.out.1) (by rw [block_add]; exact SB.out.2), HSV.out]))
            | (go_at_call 22; (with_reducible refine (next_go (K0 + n + 1) t ({ t with now := now + c.wait - 1 } : Pt) g (now + c.wait - 1) 0 0 _ hp2.blk HI.out (by omega) HX.out).mono ?_); rintro e w3 ⟨rfl, hp3⟩; (have q1 : ∀ k, w3.cell? ⟨w.heap.size, k, none⟩ = (#[.int .i64 c.v, .int .i64 c.base, .int .i64 c.most, .int .i64 c.tries, .int .i64 c.losses, .int .i64 c.wait, .int .i64 c.raise] : Array Value)[k]? := fun k => (put_blk hp3 (put_blk hp2 hW.out.box (by omega)) (by omega)).cell k)))
          go_roundg k
          case measure => omega
          case rel => exact ⟨({ t with now := now + c.wait - 1 } : Pt), now + c.wait, n + 1, rfl, rfl, by omega, by omega, by omega, by omega, HR, Lib.hid ((hW.out.step hp2 HI.out HT.out.cfg (Int.le_of_eq HT.out.now)).step hp3 (by rw [← Int.add_assoc]; exact HY.out) rfl (by show now + c.wait - 1 ≤ now + c.wait; omega))⟩
        · as_aux_lemma =>
          have hs2 : S ((n + 1) % (L : Int)).toNat = false := Bool.eq_false_iff.2 hs1
          rw [hs2] at sv
          have HSV := Lib.hid sv
          rw [if_pos (by unfold talkOf; rw [hs2]; simp [hL0])] at hr
          obtain ⟨k1, k2, k3, k4⟩ := tooBig_says (p := b) (m := m) HI.out
          have hak := tooBigA_go (p := b) (m := m) HT.out.now (show now ≤ 1099511627776 by omega)
          have hia := HI.out.tooBig (p := b) (m := m)
          obtain ⟨u, hu⟩ : ∃ u, u = (t.tooBig b m).2 := ⟨_, rfl⟩
          obtain ⟨y, hy⟩ : ∃ y, y = (t.tooBig b m).1 := ⟨_, rfl⟩
          rw [← hu, ← hy] at hak
          rw [← hu] at hia k1
          rw [hak] at hr
          have HA := Lib.hid hak
          have HR := Lib.hid hr
          have HQ := Lib.hid (And.intro k1.cfg (And.intro (k1.now.trans HT.out.now) hia))
          clear hr hak k1 k2 k3 k4 hia hu hy hs1 hs2 sv sc sb1 sb2
          go_wp2_with (first
            | (go_at_call 22; (with_reducible refine (next_go (K0 + n) s t g now a b _ hW.out.put.blk hW.out.inv (by omega) HN).mono ?_); rintro e w2 ⟨rfl, hp2⟩; (have q0 : ∀ k, w2.cell? ⟨w.heap.size, k, none⟩ = (#[.int .i64 c.v, .int .i64 c.base, .int .i64 c.most, .int .i64 c.tries, .int .i64 c.losses, .int .i64 c.wait, .int .i64 c.raise] : Array Value)[k]? := fun k => (put_blk hp2 hW.out.box (by omega)).cell k); (have q9 : w2.cell? (sa.add ((n + 1) % (L : Int)).toNat) = some (.bool false) := by rw [cell_put (hW.out.put.trans hp2) (sa.add _) (by rw [block_add]; exact SB.out.1) (by rw [block_add]; exact SB.out.2), HSV.out]))
            | (go_at_call 29; (with_reducible refine (tooBig_go (K0 + n + 1) t u g b m now y _ hp2.blk HI.out (by omega) HA).mono ?_); rintro e w3 ⟨rfl, hp3⟩))
          go_roundg k
          case measure => omega
          case rel => exact ⟨u, now, n + 1, rfl, rfl, hn0, by omega, by omega, by omega, HR, Lib.hid ((hW.out.step hp2 HI.out HT.out.cfg (Int.le_of_eq HT.out.now)).step hp3 (by rw [← Int.add_assoc]; exact HQ.out.2.2) HQ.out.1 (Int.le_of_eq HQ.out.2.1))⟩
      · as_aux_lemma =>
          have hL00 : L = 0 := by omega
          subst hL00
          rw [if_neg (by unfold talkOf; simp)] at hr
          have HR := Lib.hid hr
          clear hr
          go_wp2_with (first
            | (go_at_call 22; (with_reducible refine (next_go (K0 + n) s t g now a b _ hW.out.put.blk hW.out.inv (by omega) HN).mono ?_); rintro e w2 ⟨rfl, hp2⟩; (have q0 : ∀ k, w2.cell? ⟨w.heap.size, k, none⟩ = (#[.int .i64 c.v, .int .i64 c.base, .int .i64 c.most, .int .i64 c.tries, .int .i64 c.losses, .int .i64 c.wait, .int .i64 c.raise] : Array Value)[k]? := fun k => (put_blk hp2 hW.out.box (by omega)).cell k))
            | (go_at_call 22; (with_reducible refine (next_go (K0 + n + 1) t ({ t with now := now + c.wait - 1 } : Pt) g (now + c.wait - 1) 0 0 _ hp2.blk HI.out (by omega) HX.out).mono ?_); rintro e w3 ⟨rfl, hp3⟩; (have q1 : ∀ k, w3.cell? ⟨w.heap.size, k, none⟩ = (#[.int .i64 c.v, .int .i64 c.base, .int .i64 c.most, .int .i64 c.tries, .int .i64 c.losses, .int .i64 c.wait, .int .i64 c.raise] : Array Value)[k]? := fun k => (put_blk hp3 (put_blk hp2 hW.out.box (by omega)) (by omega)).cell k)))
          go_roundg k
          case measure => omega
          case rel => exact ⟨({ t with now := now + c.wait - 1 } : Pt), now + c.wait, n + 1, rfl, rfl, by omega, by omega, by omega, by omega, HR, Lib.hid ((hW.out.step hp2 HI.out HT.out.cfg (Int.le_of_eq HT.out.now)).step hp3 (by rw [← Int.add_assoc]; exact HY.out) rfl (by show now + c.wait - 1 ≤ now + c.wait; omega))⟩
end Go.Proofs.Ytmanojnhjhpokaa.PB
