/- The walk of ProbeWithin: it answers true, and leaves alone all memory that was there. Conditions: the script is read from its cells, and is no longer than a slice may be. -/
import Derived.Test.YtmanojnhjhpokaaWiB
import Derived.Deep.LoopGhost
import Derived.Deep.DeepCutAuto
import Derived.Deep.CutBlock
namespace Go.Proofs.Ytmanojnhjhpokaa.PB
set_option linter.unusedVariables false
set_option linter.unusedSimpArgs false
open Go.RowKit
theorem add_at (g k : Nat) : (⟨g, 0, none⟩ : Addr).add k = ⟨g, k, none⟩ := by unfold Addr.add; split <;> simp_all
theorem info3 : (Try.prog.info? 3).map (fun i => (i.zero, i.size, i.bytes)) = some (some (.int .i64 0), 1, 8) := by kernel_rfl
set_option maxRecDepth 100000 in
set_option maxHeartbeats 16000000 in
theorem within_walk (c : Cfg) (A0 : Option Addr) (n cap : Nat) (O : Nat → Op) (w : World) (hs : Hid (0 < n → ∃ a, A0 = some a ∧ Script w a n O)) (hn : n ≤ 1599289640354) :
    Calls Try.prog 5 #[.agg #[.int .i64 c.v, .int .i64 c.base, .int .i64 c.most, .int .i64 c.tries, .int .i64 c.losses, .int .i64 c.wait, .int .i64 c.raise], .slice A0 n cap] w fun e w' => e = .returned (.bool true) ∧ Below w.heap.size w w' := by
  go_enter Try.func5, Try.ntmps5
  go_wp2_with fail
  refine (alive_calls _).mono ?_
  rintro e w1 ⟨rfl, hb1⟩
  have hz1 : w.heap.size < w1.heap.size := by have := hb1.size; simp at this; omega
  have B1 := Lib.hid (((Below.refl w.heap.size w).alloc (Nat.le_refl _) _).trans (hb1.mono (by simp)))
  have hb1' := hb1
  have x1 := box_at (b := w.heap.size) hb1 (by simp)
  clear hb1
  go_wp2_with fail
  refine (bounded_some c _).mono ?_
  rintro e w2 ⟨d, hd, rfl, hb2⟩
  have Hd := Lib.hid (Cfg.made_ok c)
  rw [← hd] at Hd
  clear hd
  have hb2c : w1.heap.size ≤ w2.heap.size := hb2.size
  have hk2 : Blk w2 w.heap.size 30 #[.int .i64 c.v, .int .i64 c.base, .int .i64 c.most, .int .i64 c.tries, .int .i64 c.losses, .int .i64 c.wait, .int .i64 c.raise] := Blk.below_ (Blk.below_ (Blk.new w 30 _) hb1') hb2
  have x2 : ∀ i, w2.cell? ⟨w.heap.size, i, none⟩ = (#[.int .i64 c.v, .int .i64 c.base, .int .i64 c.most, .int .i64 c.tries, .int .i64 c.losses, .int .i64 c.wait, .int .i64 c.raise] : Array Value)[i]? := fun i => hk2.cell i
  have y2 : ∀ i, w2.frozen? ⟨w.heap.size, i, none⟩ = false := fun i => hk2.frozen i
  clear x1
  have HK2 := Lib.hid hk2
  have B2 := Lib.hid (B1.out.trans (hb2.mono (by omega)))
  clear hk2 hb2 hb1' B1
  go_wp2_with fail
  refine calls_named fun W hW => ?_
  have hkW : Blk W w.heap.size 30 #[.int .i64 d.v, .int .i64 d.base, .int .i64 d.most, .int .i64 d.tries, .int .i64 d.losses, .int .i64 d.wait, .int .i64 d.raise] := by
    rw [hW]
    have q := ((((((HK2.out.set_ 0 (.int .i64 d.v)).set_ 1 (.int .i64 d.base)).set_ 2 (.int .i64 d.most)).set_ 3 (.int .i64 d.tries)).set_ 4 (.int .i64 d.losses)).set_ 5 (.int .i64 d.wait)).set_ 6 (.int .i64 d.raise)
    exact q
  have bW : Below w.heap.size w W := by
    rw [hW]
    exact ((((((B2.out.setCell (by simp) _).setCell (by simp) _).setCell (by simp) _).setCell (by simp) _).setCell (by simp) _).setCell (by simp) _).setCell (by simp) _
  have HKW := Lib.hid hkW
  have BW := Lib.hid bW
  have hlW : w.heap.size < W.heap.size := hkW.lt
  clear hkW bW hW x2 y2 HK2 B2
  refine (new_calls d W).mono ?_
  rintro e w3 hM
  obtain ⟨g, rfl, hg, hI, hb3⟩ := hM.1 Hd.out.1
  clear hM
  as_aux_lemma =>
  have hk3 : Blk w3 w.heap.size 30 _ := HKW.out.below_ hb3
  have HK3 := Lib.hid hk3
  have HI3 := Lib.hid hI
  have hlg : g < w3.heap.size := hI.lt
  have B3 := Lib.hid (BW.out.trans (hb3.mono BW.out.size))
  have hlt3 : W.heap.size ≤ w3.heap.size := hb3.size
  clear hk3 hI hb3 BW HKW
  dsimp only
  go_wp2_with fail
  have W3 : Hid (WW w w3 g w.heap.size w3.heap.size d d.path (.slice none 0 0) []) := Lib.hid ⟨HI3.out, HK3.out, World.ownsRow_nil _ _ _ _, B3.out, by omega, hlg, Nat.le_refl _, by omega, by omega, Nat.le_refl _⟩
  have I3 : Hid (Wi d d.path [] 0 0 0 0) := Lib.hid ⟨path_inv Hd.out.1, rfl, rfl, rfl, (fun h => absurd h (by decide)), rfl, fun h => by have h : (1 : Int) = 2 ∨ (1 : Int) = 3 := h; omega⟩
  clear HI3 HK3 B3 hg hlt3 hlW hz1 hb2c
  go_loopg [8, 9, 10, 11, 12, 13] n (fun kq v8 v9 v10 v11 v12 v13 wr => ∃ (i : Nat) (s : Pt) (A : List Int) (nu u sz la : Int), v13 = .int .i64 i ∧ v9 = .int .i64 nu ∧ v10 = .int .i64 u ∧ v11 = .int .i64 sz ∧ v12 = .int .i64 la ∧ i + kq = n ∧ nu ≤ i ∧ A.length ≤ i ∧ Hid (Wi d s A nu u sz la) ∧ Hid (WW w wr g w.heap.size w3.heap.size d s v8 A))
  case atStart => exact ⟨0, d.path, [], 0, 0, 0, 0, rfl, rfl, rfl, rfl, rfl, by omega, by decide, by decide, I3, W3⟩
  case round =>
    as_aux_lemma =>
    clear I3 W3
    obtain ⟨i, s, A, nu, u, sz, la, rfl, rfl, rfl, rfl, rfl, hi, hnu, hA, hI, hW⟩ := hrel
    have hgw : g < wr.heap.size := hW.out.is.lt
    have hww : w.heap.size < wr.heap.size := hW.out.box.lt
    have hn0 : 0 ≤ nu := by have := hI.out.inv; unfold Inv at this; omega
    by_cases hlt : i < n
    · obtain ⟨a, rfl, hsc⟩ := hs.out (by omega)
      obtain ⟨f0, f1, f2, f3, f4, f5, f6, f7, f8, f9, f10⟩ := (hsc i hlt).below hW.out.below
      clear hsc
      have HOB : Hid (∀ j, u8.ownBlock = some j → j < wr.heap.size) := Lib.hid (fun j e => (hW.out.row.lt j e).2)
      have HW := hW
      have HI := hI
      clear hW hI
      by_cases k2 : (O i).kind < 2
      · as_aux_lemma =>
        go_wp2_with fail
        go_roundg (gk - 1)
        case measure => omega
        case rel => exact ⟨i + 1, s, A, nu, u, sz, la, by go_num, rfl, rfl, rfl, rfl, by omega, by omega, by omega, HI, Lib.hid (HW.out.alloc _)⟩
      by_cases k6 : 6 < (O i).kind
      · as_aux_lemma =>
        have ke : decide ((O i).kind < 2) = false := decide_eq_false k2
        go_wp2_with fail
        go_roundg (gk - 1)
        case measure => omega
        case rel => exact ⟨i + 1, s, A, nu, u, sz, la, by go_num, rfl, rfl, rfl, rfl, by omega, by omega, by omega, HI, Lib.hid (HW.out.alloc _)⟩
      obtain ⟨x, hx⟩ : ∃ x, x = s.says (O i) := ⟨_, rfl⟩
      obtain ⟨t, ht⟩ : ∃ t, t = s.after (O i) := ⟨_, rfl⟩
      have Hx := Lib.hid hx
      have Ht := Lib.hid ht
      clear hx ht
      have ke : decide ((O i).kind < 2) = false := decide_eq_false k2
      have kf : decide (6 < (O i).kind) = false := decide_eq_false k6
      by_cases hl : s.late (O i).now
      · as_aux_lemma =>
        obtain ⟨z1, z2⟩ := says_late hl (by omega)
        have hgo : Hid (⟨0, 0, false, 1, s.size, s.state⟩ = s.says (O i)) := Lib.hid z1.symm
        have hto : Hid (s = s.after (O i)) := Lib.hid z2.symm
        clear z1 z2
        unfold Pt.late at hl
        have hla : s.now = la := HI.out.last
        rw [hla] at hl
        clear hla
        by_cases h1 : (O i).now < la
        · as_aux_lemma =>
          have kn : decide (la ≤ (O i).now) = false := decide_eq_false (by omega)
          clear hl
          go_wp2_with (first
        | (go_at_call 15; (with_reducible refine (size_same s g _ (HW.out.is.alloc _)).mono ?_); rintro e w' ⟨rfl, rfl⟩)
        | (go_at_call 14; (with_reducible refine (state_same s g _ (HW.out.is.alloc _)).mono ?_); rintro e w' ⟨rfl, rfl⟩)
        | (go_at_call 12; (with_reducible refine (does_of nu s s ⟨0, 0, false, 1, s.size, s.state⟩ g (O i) _ hgo hto (HW.out.is.alloc _) HI.out.inv (by omega)).mono ?_); rintro e w5 ⟨rfl, hp5⟩; (have l1 : wr.heap.size < w5.heap.size := (by have := hp5.size; simp at this; omega)); (have o1 : ∀ o k, (w5.alloc o).cell? ⟨wr.heap.size, k, none⟩ = (#[.int .i64 (O i).kind, .int .i64 (O i).c.v, .int .i64 (O i).c.base, .int .i64 (O i).c.most, .int .i64 (O i).c.tries, .int .i64 (O i).c.losses, .int .i64 (O i).c.wait, .int .i64 (O i).c.raise, .int .i64 (O i).n, .int .i64 (O i).size, .int .i64 (O i).now] : Array Value)[k]? := fun o k => ((put_blk hp5 (Blk.new wr 33 _) (by omega)).alloc o).cell k); (have o2 : ∀ o k, (w5.alloc o).cell? ⟨w.heap.size, k, none⟩ = (#[.int .i64 d.v, .int .i64 d.base, .int .i64 d.most, .int .i64 d.tries, .int .i64 d.losses, .int .i64 d.wait, .int .i64 d.raise] : Array Value)[k]? := fun o k => ((put_blk hp5 (HW.out.box.alloc _) HW.out.ne).alloc o).cell k)))
          go_roundg (gk - 1)
          case measure => omega
          case rel => exact ⟨i + 1, s, A, nu, u, sz, la, by go_num, rfl, rfl, rfl, rfl, by omega, by omega, by omega, HI, Lib.hid (((HW.out.alloc _).put hp5).alloc _)⟩
        · as_aux_lemma =>
          have kn : decide (la ≤ (O i).now) = true := decide_eq_true (by omega)
          have km : decide ((O i).now ≤ 1099511627776) = false := decide_eq_false (by omega)
          clear hl
          go_wp2_with (first
        | (go_at_call 15; (with_reducible refine (size_same s g _ (HW.out.is.alloc _)).mono ?_); rintro e w' ⟨rfl, rfl⟩)
        | (go_at_call 14; (with_reducible refine (state_same s g _ (HW.out.is.alloc _)).mono ?_); rintro e w' ⟨rfl, rfl⟩)
        | (go_at_call 12; (with_reducible refine (does_of nu s s ⟨0, 0, false, 1, s.size, s.state⟩ g (O i) _ hgo hto (HW.out.is.alloc _) HI.out.inv (by omega)).mono ?_); rintro e w5 ⟨rfl, hp5⟩; (have l1 : wr.heap.size < w5.heap.size := (by have := hp5.size; simp at this; omega)); (have o1 : ∀ o k, (w5.alloc o).cell? ⟨wr.heap.size, k, none⟩ = (#[.int .i64 (O i).kind, .int .i64 (O i).c.v, .int .i64 (O i).c.base, .int .i64 (O i).c.most, .int .i64 (O i).c.tries, .int .i64 (O i).c.losses, .int .i64 (O i).c.wait, .int .i64 (O i).c.raise, .int .i64 (O i).n, .int .i64 (O i).size, .int .i64 (O i).now] : Array Value)[k]? := fun o k => ((put_blk hp5 (Blk.new wr 33 _) (by omega)).alloc o).cell k); (have o2 : ∀ o k, (w5.alloc o).cell? ⟨w.heap.size, k, none⟩ = (#[.int .i64 d.v, .int .i64 d.base, .int .i64 d.most, .int .i64 d.tries, .int .i64 d.losses, .int .i64 d.wait, .int .i64 d.raise] : Array Value)[k]? := fun o k => ((put_blk hp5 (HW.out.box.alloc _) HW.out.ne).alloc o).cell k)))
          go_roundg (gk - 1)
          case measure => omega
          case rel => exact ⟨i + 1, s, A, nu, u, sz, la, by go_num, rfl, rfl, rfl, rfl, by omega, by omega, by omega, HI, Lib.hid (((HW.out.alloc _).put hp5).alloc _)⟩
      have HS := Lib.hid (HI.out.at_ hl)
      have hxs : Hid (x.size = t.size) := Lib.hid (by rw [Hx.out, Ht.out]; unfold Pt.says; (repeat' split) <;> rfl)
      have hxt : Hid (x.st = t.state) := Lib.hid (by rw [Hx.out, Ht.out]; unfold Pt.says; (repeat' split) <;> rfl)
      have HN : Hid ((O i).kind = 2 → x.e = 0 ∧ x.yes = false ∧ (0 < x.a → x.b = nu + 1 ∧ d.base ≤ x.a ∧ x.a ≤ d.most ∧ Sw d s t A (nu + 1) (nu + 1) x.a (O i).now) ∧ (¬ 0 < x.a → x.b = 0 ∧ Sw d s t A nu u sz (O i).now) ∧ (t.state = 1 ∨ t.size ≤ s.size)) := Lib.hid (fun e => says_next HS.out hl e Hx.out Ht.out)
      have HA3 : Hid ((O i).kind = 3 → x.e = 0 ∧ x.yes = decide (0 < u ∧ (O i).n = u) ∧ ((0 < u ∧ (O i).n = u) → Sw d s t (A ++ [sz]) nu 0 sz (O i).now) ∧ (¬ (0 < u ∧ (O i).n = u) → Sw d s t A nu u sz (O i).now ∧ t.size = s.size ∧ t.state = s.state)) := Lib.hid (fun e => says_acked HS.out hl e Hx.out Ht.out)
      have HA4 : Hid ((O i).kind = 4 → x.e = 0 ∧ (x.yes = true → (O i).n = u ∧ (O i).size < sz ∧ Sw d s t A nu 0 sz (O i).now) ∧ (x.yes = false → Sw d s t A nu u sz (O i).now ∧ t.size = s.size ∧ t.state = s.state) ∧ (t.size ≠ s.size → t.state = 4) ∧ (t.state = 1 ∨ t.size ≤ s.size)) := Lib.hid (fun e => says_tooBig HS.out hl e Hx.out Ht.out)
      have HA5 : Hid ((O i).kind = 5 → x.e = 0 ∧ Sw d s t A nu u sz (O i).now ∧ (t.state = 1 ∨ t.size ≤ s.size)) := Lib.hid (fun e => says_got HS.out hl e Hx.out Ht.out)
      have HA6 : Hid ((O i).kind = 6 → x.e = 0 ∧ (x.yes = true → s.state ≠ 1 ∧ t.state = 1 ∧ Sw d s t A nu 0 sz (O i).now) ∧ (x.yes = false → t.state = s.state ∧ Sw d s t A nu u sz (O i).now) ∧ (t.state = 1 ∨ t.size ≤ s.size)) := Lib.hid (fun e => says_lost HS.out hl e Hx.out Ht.out)
      have xe : (x.e == 0) = true := beq_iff_eq.2 (by
        have hk : (O i).kind = 2 ∨ (O i).kind = 3 ∨ (O i).kind = 4 ∨ (O i).kind = 5 ∨ (O i).kind = 6 := by omega
        rcases hk with hk | hk | hk | hk | hk
        · exact (HN.out hk).1
        · exact (HA3.out hk).1
        · exact (HA4.out hk).1
        · exact (HA5.out hk).1
        · exact (HA6.out hk).1)
      have HG : Hid ((O i).kind = 3 ∨ t.state = 1 ∨ t.size ≤ s.size) := Lib.hid (by
        have hk : (O i).kind = 2 ∨ (O i).kind = 3 ∨ (O i).kind = 4 ∨ (O i).kind = 5 ∨ (O i).kind = 6 := by omega
        rcases hk with hk | hk | hk | hk | hk
        · exact .inr (HN.out hk).2.2.2.2
        · exact .inl hk
        · exact .inr (HA4.out hk).2.2.2.2
        · exact .inr (HA5.out hk).2.2
        · exact .inr (HA6.out hk).2.2.2)
      unfold Pt.late at hl
      have kn : decide (la ≤ (O i).now) = true := decide_eq_true (by have := HI.out.last; omega)
      have km : decide ((O i).now ≤ 1099511627776) = true := decide_eq_true (by omega)
      as_aux_lemma =>
      go_upto_region 25 with (first
        | (go_at_call 15; (with_reducible refine (size_same s g _ (HW.out.is.alloc _)).mono ?_); rintro e w' ⟨rfl, rfl⟩)
        | (go_at_call 14; (with_reducible refine (state_same s g _ (HW.out.is.alloc _)).mono ?_); rintro e w' ⟨rfl, rfl⟩)
        | (go_at_call 12; (with_reducible refine (does_of nu s t x g (O i) _ Hx Ht (HW.out.is.alloc _) HI.out.inv (by omega)).mono ?_); rintro e w5 ⟨rfl, hp5⟩; (have l1 : wr.heap.size < w5.heap.size := (by have := hp5.size; simp at this; omega)); (have o1 : ∀ o k, (w5.alloc o).cell? ⟨wr.heap.size, k, none⟩ = (#[.int .i64 (O i).kind, .int .i64 (O i).c.v, .int .i64 (O i).c.base, .int .i64 (O i).c.most, .int .i64 (O i).c.tries, .int .i64 (O i).c.losses, .int .i64 (O i).c.wait, .int .i64 (O i).c.raise, .int .i64 (O i).n, .int .i64 (O i).size, .int .i64 (O i).now] : Array Value)[k]? := fun o k => ((put_blk hp5 (Blk.new wr 33 _) (by omega)).alloc o).cell k); (have o2 : ∀ o k, (w5.alloc o).cell? ⟨w.heap.size, k, none⟩ = (#[.int .i64 d.v, .int .i64 d.base, .int .i64 d.most, .int .i64 d.tries, .int .i64 d.losses, .int .i64 d.wait, .int .i64 d.raise] : Array Value)[k]? := fun o k => ((put_blk hp5 (HW.out.box.alloc _) HW.out.ne).alloc o).cell k)))
      as_aux_lemma =>
      refine wp_named fun W6 hW6 => ?_
      have hO : Hid (Blk W6 wr.heap.size 33 #[.int .i64 (O i).kind, .int .i64 (O i).c.v, .int .i64 (O i).c.base, .int .i64 (O i).c.most, .int .i64 (O i).c.tries, .int .i64 (O i).c.losses, .int .i64 (O i).c.wait, .int .i64 (O i).c.raise, .int .i64 (O i).n, .int .i64 (O i).size, .int .i64 (O i).now]) := Lib.hid (by rw [hW6]; exact (put_blk hp5 (Blk.new wr 33 _) (by omega)).alloc _)
      have hX : Hid (Blk W6 w5.heap.size 37 #[.int .i64 x.a, .int .i64 x.b, .bool x.yes, .int .i64 x.e, .int .i64 x.size, .int .i64 x.st]) := Lib.hid (by rw [hW6]; exact Blk.new w5 37 _)
      have HW6 : Hid (WW w W6 g w.heap.size w3.heap.size d t u8 A) := Lib.hid (by rw [hW6]; exact ((HW.out.alloc _).put hp5).alloc _)
      have l6 : wr.heap.size < w5.heap.size := l1
      have l7 : w5.heap.size < W6.heap.size := hX.out.lt
      clear hW6 o1 o2 hp5 HW f0 f1 f2 f3 f4 f5 f6 f7 f8 f9 f10
      have q0 : ∀ k, W6.cell? ⟨wr.heap.size, k, none⟩ = (#[.int .i64 (O i).kind, .int .i64 (O i).c.v, .int .i64 (O i).c.base, .int .i64 (O i).c.most, .int .i64 (O i).c.tries, .int .i64 (O i).c.losses, .int .i64 (O i).c.wait, .int .i64 (O i).c.raise, .int .i64 (O i).n, .int .i64 (O i).size, .int .i64 (O i).now] : Array Value)[k]? := fun k => hO.out.cell k
      go_upto_block 2 with fail
      clear q0
      go_cut [8, 9, 10, 11] (fun v8 v9 v10 v11 wx => ∃ (A' : List Int) (nu' u' sz' : Int), v9 = .int .i64 nu' ∧ v10 = .int .i64 u' ∧ v11 = .int .i64 sz' ∧ nu' ≤ i + 1 ∧ A'.length ≤ i + 1 ∧ Hid (Sw d s t A' nu' u' sz' (O i).now) ∧ Hid (WW w wx g w.heap.size w3.heap.size d t v8 A') ∧ Hid (Blk wx wr.heap.size 33 #[.int .i64 (O i).kind, .int .i64 (O i).c.v, .int .i64 (O i).c.base, .int .i64 (O i).c.most, .int .i64 (O i).c.tries, .int .i64 (O i).c.losses, .int .i64 (O i).c.wait, .int .i64 (O i).c.raise, .int .i64 (O i).n, .int .i64 (O i).size, .int .i64 (O i).now] ∧ Blk wx w5.heap.size 37 #[.int .i64 x.a, .int .i64 x.b, .bool x.yes, .int .i64 x.e, .int .i64 x.size, .int .i64 x.st]))
      case first =>
        by_cases hk : (O i).kind = 2
        · by_cases ha : 0 < x.a
          · as_aux_lemma =>
            obtain ⟨-, -, z1, -⟩ := HN.out hk
            obtain ⟨z1, z2, z3, z4⟩ := z1 ha
            have a1 : decide (0 < x.a) = true := decide_eq_true ha
            have a2 : (x.b != nu + 1) = false := bne_eq_false_iff_eq.2 z1
            have a3 : decide (x.a < d.base) = false := decide_eq_false (by omega)
            have a4 : decide (d.most < x.a) = false := decide_eq_false (by omega)
            have HZ := Lib.hid z4
            clear z1 z4
            have g2 : ((O i).kind == 2) = true := beq_iff_eq.2 hk
            have g3 : ((O i).kind == 3) = false := beq_eq_false_iff_ne.2 (by omega)
            have g4 : ((O i).kind == 4) = false := beq_eq_false_iff_ne.2 (by omega)
            have g6 : ((O i).kind == 6) = false := beq_eq_false_iff_ne.2 (by omega)
            have q0 : ∀ k, W6.cell? ⟨wr.heap.size, k, none⟩ = (#[.int .i64 (O i).kind, .int .i64 (O i).c.v, .int .i64 (O i).c.base, .int .i64 (O i).c.most, .int .i64 (O i).c.tries, .int .i64 (O i).c.losses, .int .i64 (O i).c.wait, .int .i64 (O i).c.raise, .int .i64 (O i).n, .int .i64 (O i).size, .int .i64 (O i).now] : Array Value)[k]? := fun k => hO.out.cell k
            have q1 : ∀ k, W6.cell? ⟨w.heap.size, k, none⟩ = (#[.int .i64 d.v, .int .i64 d.base, .int .i64 d.most, .int .i64 d.tries, .int .i64 d.losses, .int .i64 d.wait, .int .i64 d.raise] : Array Value)[k]? := fun k => HW6.out.box.cell k
            have q2 : ∀ k, W6.cell? ⟨w5.heap.size, k, none⟩ = (#[.int .i64 x.a, .int .i64 x.b, .bool x.yes, .int .i64 x.e, .int .i64 x.size, .int .i64 x.st] : Array Value)[k]? := fun k => hX.out.cell k
            clear hk
            go_wp2
            go_meet
            case rel => exact ⟨A, nu + 1, nu + 1, x.a, rfl, rfl, rfl, by omega, by omega, Lib.hid (HZ.out), Lib.hid (HW6.out), Lib.hid ⟨hO.out, hX.out⟩⟩
          · as_aux_lemma =>
            obtain ⟨-, -, -, z1, -⟩ := HN.out hk
            obtain ⟨z1, z2⟩ := z1 (by omega)
            have a1 : decide (0 < x.a) = false := decide_eq_false (by omega)
            have a2 : (x.b != 0) = false := bne_eq_false_iff_eq.2 z1
            have HZ := Lib.hid z2
            clear z1 z2
            have g2 : ((O i).kind == 2) = true := beq_iff_eq.2 hk
            have g3 : ((O i).kind == 3) = false := beq_eq_false_iff_ne.2 (by omega)
            have g4 : ((O i).kind == 4) = false := beq_eq_false_iff_ne.2 (by omega)
            have g6 : ((O i).kind == 6) = false := beq_eq_false_iff_ne.2 (by omega)
            have q0 : ∀ k, W6.cell? ⟨wr.heap.size, k, none⟩ = (#[.int .i64 (O i).kind, .int .i64 (O i).c.v, .int .i64 (O i).c.base, .int .i64 (O i).c.most, .int .i64 (O i).c.tries, .int .i64 (O i).c.losses, .int .i64 (O i).c.wait, .int .i64 (O i).c.raise, .int .i64 (O i).n, .int .i64 (O i).size, .int .i64 (O i).now] : Array Value)[k]? := fun k => hO.out.cell k
            have q1 : ∀ k, W6.cell? ⟨w.heap.size, k, none⟩ = (#[.int .i64 d.v, .int .i64 d.base, .int .i64 d.most, .int .i64 d.tries, .int .i64 d.losses, .int .i64 d.wait, .int .i64 d.raise] : Array Value)[k]? := fun k => HW6.out.box.cell k
            have q2 : ∀ k, W6.cell? ⟨w5.heap.size, k, none⟩ = (#[.int .i64 x.a, .int .i64 x.b, .bool x.yes, .int .i64 x.e, .int .i64 x.size, .int .i64 x.st] : Array Value)[k]? := fun k => hX.out.cell k
            clear hk
            go_wp2
            go_meet
            case rel => exact ⟨A, nu, u, sz, rfl, rfl, rfl, by omega, by omega, Lib.hid (HZ.out), Lib.hid (HW6.out), Lib.hid ⟨hO.out, hX.out⟩⟩
        by_cases hk : (O i).kind = 3
        · by_cases ha : 0 < u ∧ (O i).n = u
          · as_aux_lemma =>
            obtain ⟨-, z1, z2, -⟩ := HA3.out hk
            have a1 : decide (0 < u) = true := decide_eq_true ha.1
            have a2 : ((O i).n == u) = true := beq_iff_eq.2 ha.2
            have a3 : x.yes = true := by rw [z1]; exact decide_eq_true ha
            have HZ := Lib.hid (z2 ha)
            clear z1 z2 ha
            have g2 : ((O i).kind == 2) = false := beq_eq_false_iff_ne.2 (by omega)
            have g3 : ((O i).kind == 3) = true := beq_iff_eq.2 hk
            have g4 : ((O i).kind == 4) = false := beq_eq_false_iff_ne.2 (by omega)
            have g6 : ((O i).kind == 6) = false := beq_eq_false_iff_ne.2 (by omega)
            have q0 : ∀ k, W6.cell? ⟨wr.heap.size, k, none⟩ = (#[.int .i64 (O i).kind, .int .i64 (O i).c.v, .int .i64 (O i).c.base, .int .i64 (O i).c.most, .int .i64 (O i).c.tries, .int .i64 (O i).c.losses, .int .i64 (O i).c.wait, .int .i64 (O i).c.raise, .int .i64 (O i).n, .int .i64 (O i).size, .int .i64 (O i).now] : Array Value)[k]? := fun k => hO.out.cell k
            have q1 : ∀ k, W6.cell? ⟨w.heap.size, k, none⟩ = (#[.int .i64 d.v, .int .i64 d.base, .int .i64 d.most, .int .i64 d.tries, .int .i64 d.losses, .int .i64 d.wait, .int .i64 d.raise] : Array Value)[k]? := fun k => HW6.out.box.cell k
            have q2 : ∀ k, W6.cell? ⟨w5.heap.size, k, none⟩ = (#[.int .i64 x.a, .int .i64 x.b, .bool x.yes, .int .i64 x.e, .int .i64 x.size, .int .i64 x.st] : Array Value)[k]? := fun k => hX.out.cell k
            clear hk
            obtain ⟨i0, hi0, hz0, hz1, hz2⟩ := info_parts info3
            have HI0 := Lib.hid hi0
            have HZ0 := Lib.hid hz0
            have HZ1 := Lib.hid hz1
            have HZ2 := Lib.hid hz2
            clear hi0 hz0 hz1 hz2
            go_wp2_with (at_builtin; refine wpList_append_own _ rfl _ _ 54 rfl w3.heap.size 3 i0 (.int .i64 0) 1 8 Try.underlying54 HI0.out HZ0.out HZ1.out HZ2.out rfl (by decide) u8 A.length (A.map (Value.int .i64)) rfl ((HW6.out.alloc _).row) ⟨W6.heap.size, 0, none⟩ 1 1 [.int .i64 sz] rfl rfl ?c1 ?c2 ?c3 ?c4 ?c5 ?_)
            case c1 => intro j v hj; match j, hj with | 0, hj => (injection hj with hj; subst hj; exact (Blk.new W6 3 _).cell 0) | j + 1, hj => cases hj
            case c2 => intro v hv; rw [List.mem_singleton.1 hv]; rfl
            case c3 => unfold maxLen; omega
            case c4 => omega
            case c5 => have := HW6.out.size; simp; omega
            intro v' w7 hown hgrow _
            have HW7 := Lib.hid ((HW6.out.alloc _).more hown hgrow)
            have hO7 : Hid (Blk w7 wr.heap.size 33 #[.int .i64 (O i).kind, .int .i64 (O i).c.v, .int .i64 (O i).c.base, .int .i64 (O i).c.most, .int .i64 (O i).c.tries, .int .i64 (O i).c.losses, .int .i64 (O i).c.wait, .int .i64 (O i).c.raise, .int .i64 (O i).n, .int .i64 (O i).size, .int .i64 (O i).now] ∧ Blk w7 w5.heap.size 37 #[.int .i64 x.a, .int .i64 x.b, .bool x.yes, .int .i64 x.e, .int .i64 x.size, .int .i64 x.st]) := Lib.hid ⟨(hgrow.block _ (by simp; omega) (fun e => by have := HOB.out _ e.symm; omega)).trans (hO.out.alloc _), (hgrow.block _ (by simp; omega) (fun e => by have := HOB.out _ e.symm; omega)).trans (hX.out.alloc _)⟩
            clear hown hgrow q0 q1 q2
            have q2 : ∀ k, w7.cell? ⟨w5.heap.size, k, none⟩ = (#[.int .i64 x.a, .int .i64 x.b, .bool x.yes, .int .i64 x.e, .int .i64 x.size, .int .i64 x.st] : Array Value)[k]? := fun k => hO7.out.2.cell k
            go_wp2
            go_meet
            case rel => exact ⟨A ++ [sz], nu, 0, sz, rfl, rfl, rfl, by omega, by simp; omega, HZ, HW7, hO7⟩
          · as_aux_lemma =>
            obtain ⟨-, z1, -, z2⟩ := HA3.out hk
            obtain ⟨z2, z3, z4⟩ := z2 ha
            have a3 : x.yes = false := by rw [z1]; exact decide_eq_false ha
            have a4 : (x.size != s.size) = false := bne_eq_false_iff_eq.2 (by rw [hxs.out, z3])
            have a5 : (x.st != s.state) = false := bne_eq_false_iff_eq.2 (by rw [hxt.out, z4])
            have HZ := Lib.hid z2
            clear z1 z2 z3 z4
            have g2 : ((O i).kind == 2) = false := beq_eq_false_iff_ne.2 (by omega)
            have g3 : ((O i).kind == 3) = true := beq_iff_eq.2 hk
            have g4 : ((O i).kind == 4) = false := beq_eq_false_iff_ne.2 (by omega)
            have g6 : ((O i).kind == 6) = false := beq_eq_false_iff_ne.2 (by omega)
            have q0 : ∀ k, W6.cell? ⟨wr.heap.size, k, none⟩ = (#[.int .i64 (O i).kind, .int .i64 (O i).c.v, .int .i64 (O i).c.base, .int .i64 (O i).c.most, .int .i64 (O i).c.tries, .int .i64 (O i).c.losses, .int .i64 (O i).c.wait, .int .i64 (O i).c.raise, .int .i64 (O i).n, .int .i64 (O i).size, .int .i64 (O i).now] : Array Value)[k]? := fun k => hO.out.cell k
            have q1 : ∀ k, W6.cell? ⟨w.heap.size, k, none⟩ = (#[.int .i64 d.v, .int .i64 d.base, .int .i64 d.most, .int .i64 d.tries, .int .i64 d.losses, .int .i64 d.wait, .int .i64 d.raise] : Array Value)[k]? := fun k => HW6.out.box.cell k
            have q2 : ∀ k, W6.cell? ⟨w5.heap.size, k, none⟩ = (#[.int .i64 x.a, .int .i64 x.b, .bool x.yes, .int .i64 x.e, .int .i64 x.size, .int .i64 x.st] : Array Value)[k]? := fun k => hX.out.cell k
            clear hk
            by_cases hu : 0 < u
            · have a1 : decide (0 < u) = true := decide_eq_true hu
              have a2 : ((O i).n == u) = false := beq_eq_false_iff_ne.2 (fun e => ha ⟨hu, e⟩)
              go_wp2
              go_meet
              case rel => exact ⟨A, nu, u, sz, rfl, rfl, rfl, by omega, by omega, Lib.hid (HZ.out), Lib.hid (HW6.out), Lib.hid ⟨hO.out, hX.out⟩⟩
            · have a1 : decide (0 < u) = false := decide_eq_false hu
              go_wp2
              go_meet
              case rel => exact ⟨A, nu, u, sz, rfl, rfl, rfl, by omega, by omega, Lib.hid (HZ.out), Lib.hid (HW6.out), Lib.hid ⟨hO.out, hX.out⟩⟩
        by_cases hk : (O i).kind = 4
        · by_cases ha : x.yes = true
          · as_aux_lemma =>
            obtain ⟨-, z1, -, z3, -⟩ := HA4.out hk
            obtain ⟨z1, z2, z4⟩ := z1 ha
            have a2 : ((O i).n != u) = false := bne_eq_false_iff_eq.2 z1
            have a3 : decide (sz ≤ (O i).size) = false := decide_eq_false (by omega)
            have HZ := Lib.hid z4
            clear z1 z4
            have g2 : ((O i).kind == 2) = false := beq_eq_false_iff_ne.2 (by omega)
            have g3 : ((O i).kind == 3) = false := beq_eq_false_iff_ne.2 (by omega)
            have g4 : ((O i).kind == 4) = true := beq_iff_eq.2 hk
            have g6 : ((O i).kind == 6) = false := beq_eq_false_iff_ne.2 (by omega)
            have q0 : ∀ k, W6.cell? ⟨wr.heap.size, k, none⟩ = (#[.int .i64 (O i).kind, .int .i64 (O i).c.v, .int .i64 (O i).c.base, .int .i64 (O i).c.most, .int .i64 (O i).c.tries, .int .i64 (O i).c.losses, .int .i64 (O i).c.wait, .int .i64 (O i).c.raise, .int .i64 (O i).n, .int .i64 (O i).size, .int .i64 (O i).now] : Array Value)[k]? := fun k => hO.out.cell k
            have q1 : ∀ k, W6.cell? ⟨w.heap.size, k, none⟩ = (#[.int .i64 d.v, .int .i64 d.base, .int .i64 d.most, .int .i64 d.tries, .int .i64 d.losses, .int .i64 d.wait, .int .i64 d.raise] : Array Value)[k]? := fun k => HW6.out.box.cell k
            have q2 : ∀ k, W6.cell? ⟨w5.heap.size, k, none⟩ = (#[.int .i64 x.a, .int .i64 x.b, .bool x.yes, .int .i64 x.e, .int .i64 x.size, .int .i64 x.st] : Array Value)[k]? := fun k => hX.out.cell k
            clear hk
            by_cases hu : x.size = s.size
            · have a4 : (x.size != s.size) = false := bne_eq_false_iff_eq.2 hu
              clear hu z3
              go_wp2
              go_meet
              case rel => exact ⟨A, nu, 0, sz, rfl, rfl, rfl, by omega, by omega, Lib.hid (HZ.out), Lib.hid (HW6.out), Lib.hid ⟨hO.out, hX.out⟩⟩
            · have a4 : (x.size != s.size) = true := bne_iff_ne.2 hu
              have a5 : (x.st != 4) = false := bne_eq_false_iff_eq.2 (by rw [hxt.out]; exact z3 (by rw [← hxs.out]; exact hu))
              clear hu z3
              go_wp2
              go_meet
              case rel => exact ⟨A, nu, 0, sz, rfl, rfl, rfl, by omega, by omega, Lib.hid (HZ.out), Lib.hid (HW6.out), Lib.hid ⟨hO.out, hX.out⟩⟩
          · replace ha : x.yes = false := by simpa using ha
            as_aux_lemma =>
              obtain ⟨-, -, z1, -⟩ := HA4.out hk
              obtain ⟨z2, z3, z4⟩ := z1 ha
              have a4 : (x.size != s.size) = false := bne_eq_false_iff_eq.2 (by rw [hxs.out, z3])
              have a5 : (x.st != s.state) = false := bne_eq_false_iff_eq.2 (by rw [hxt.out, z4])
              have HZ := Lib.hid z2
              clear z1 z2 z3 z4
              have g2 : ((O i).kind == 2) = false := beq_eq_false_iff_ne.2 (by omega)
              have g3 : ((O i).kind == 3) = false := beq_eq_false_iff_ne.2 (by omega)
              have g4 : ((O i).kind == 4) = true := beq_iff_eq.2 hk
              have g6 : ((O i).kind == 6) = false := beq_eq_false_iff_ne.2 (by omega)
              have q0 : ∀ k, W6.cell? ⟨wr.heap.size, k, none⟩ = (#[.int .i64 (O i).kind, .int .i64 (O i).c.v, .int .i64 (O i).c.base, .int .i64 (O i).c.most, .int .i64 (O i).c.tries, .int .i64 (O i).c.losses, .int .i64 (O i).c.wait, .int .i64 (O i).c.raise, .int .i64 (O i).n, .int .i64 (O i).size, .int .i64 (O i).now] : Array Value)[k]? := fun k => hO.out.cell k
              have q1 : ∀ k, W6.cell? ⟨w.heap.size, k, none⟩ = (#[.int .i64 d.v, .int .i64 d.base, .int .i64 d.most, .int .i64 d.tries, .int .i64 d.losses, .int .i64 d.wait, .int .i64 d.raise] : Array Value)[k]? := fun k => HW6.out.box.cell k
              have q2 : ∀ k, W6.cell? ⟨w5.heap.size, k, none⟩ = (#[.int .i64 x.a, .int .i64 x.b, .bool x.yes, .int .i64 x.e, .int .i64 x.size, .int .i64 x.st] : Array Value)[k]? := fun k => hX.out.cell k
              clear hk
              go_wp2
              go_meet
              case rel => exact ⟨A, nu, u, sz, rfl, rfl, rfl, by omega, by omega, Lib.hid (HZ.out), Lib.hid (HW6.out), Lib.hid ⟨hO.out, hX.out⟩⟩
        by_cases hk : (O i).kind = 5
        · as_aux_lemma =>
          have HZ := Lib.hid (HA5.out hk).2.1
          have g2 : ((O i).kind == 2) = false := beq_eq_false_iff_ne.2 (by omega)
          have g3 : ((O i).kind == 3) = false := beq_eq_false_iff_ne.2 (by omega)
          have g4 : ((O i).kind == 4) = false := beq_eq_false_iff_ne.2 (by omega)
          have g6 : ((O i).kind == 6) = false := beq_eq_false_iff_ne.2 (by omega)
          have q0 : ∀ k, W6.cell? ⟨wr.heap.size, k, none⟩ = (#[.int .i64 (O i).kind, .int .i64 (O i).c.v, .int .i64 (O i).c.base, .int .i64 (O i).c.most, .int .i64 (O i).c.tries, .int .i64 (O i).c.losses, .int .i64 (O i).c.wait, .int .i64 (O i).c.raise, .int .i64 (O i).n, .int .i64 (O i).size, .int .i64 (O i).now] : Array Value)[k]? := fun k => hO.out.cell k
          have q1 : ∀ k, W6.cell? ⟨w.heap.size, k, none⟩ = (#[.int .i64 d.v, .int .i64 d.base, .int .i64 d.most, .int .i64 d.tries, .int .i64 d.losses, .int .i64 d.wait, .int .i64 d.raise] : Array Value)[k]? := fun k => HW6.out.box.cell k
          have q2 : ∀ k, W6.cell? ⟨w5.heap.size, k, none⟩ = (#[.int .i64 x.a, .int .i64 x.b, .bool x.yes, .int .i64 x.e, .int .i64 x.size, .int .i64 x.st] : Array Value)[k]? := fun k => hX.out.cell k
          clear hk
          go_wp2
          go_meet
          case rel => exact ⟨A, nu, u, sz, rfl, rfl, rfl, by omega, by omega, Lib.hid (HZ.out), Lib.hid (HW6.out), Lib.hid ⟨hO.out, hX.out⟩⟩
        replace hk : (O i).kind = 6 := by omega
        by_cases ha : x.yes = true
        · as_aux_lemma =>
          obtain ⟨-, z1, -⟩ := HA6.out hk
          obtain ⟨z1, z2, z3⟩ := z1 ha
          have a4 : (s.state != 1) = true := bne_iff_ne.2 z1
          have a5 : (x.st == 1) = true := beq_iff_eq.2 (by rw [hxt.out]; exact z2)
          have HZ := Lib.hid z3
          clear z1 z2 z3
          have g2 : ((O i).kind == 2) = false := beq_eq_false_iff_ne.2 (by omega)
          have g3 : ((O i).kind == 3) = false := beq_eq_false_iff_ne.2 (by omega)
          have g4 : ((O i).kind == 4) = false := beq_eq_false_iff_ne.2 (by omega)
          have g6 : ((O i).kind == 6) = true := beq_iff_eq.2 hk
          have q0 : ∀ k, W6.cell? ⟨wr.heap.size, k, none⟩ = (#[.int .i64 (O i).kind, .int .i64 (O i).c.v, .int .i64 (O i).c.base, .int .i64 (O i).c.most, .int .i64 (O i).c.tries, .int .i64 (O i).c.losses, .int .i64 (O i).c.wait, .int .i64 (O i).c.raise, .int .i64 (O i).n, .int .i64 (O i).size, .int .i64 (O i).now] : Array Value)[k]? := fun k => hO.out.cell k
          have q1 : ∀ k, W6.cell? ⟨w.heap.size, k, none⟩ = (#[.int .i64 d.v, .int .i64 d.base, .int .i64 d.most, .int .i64 d.tries, .int .i64 d.losses, .int .i64 d.wait, .int .i64 d.raise] : Array Value)[k]? := fun k => HW6.out.box.cell k
          have q2 : ∀ k, W6.cell? ⟨w5.heap.size, k, none⟩ = (#[.int .i64 x.a, .int .i64 x.b, .bool x.yes, .int .i64 x.e, .int .i64 x.size, .int .i64 x.st] : Array Value)[k]? := fun k => hX.out.cell k
          clear hk
          go_wp2
          go_meet
          case rel => exact ⟨A, nu, 0, sz, rfl, rfl, rfl, by omega, by omega, Lib.hid (HZ.out), Lib.hid (HW6.out), Lib.hid ⟨hO.out, hX.out⟩⟩
        · replace ha : x.yes = false := by simpa using ha
          as_aux_lemma =>
            obtain ⟨-, -, z1, -⟩ := HA6.out hk
            obtain ⟨z1, z2⟩ := z1 ha
            have HZ := Lib.hid z2
            have HE := Lib.hid z1
            clear z1 z2
            have g2 : ((O i).kind == 2) = false := beq_eq_false_iff_ne.2 (by omega)
            have g3 : ((O i).kind == 3) = false := beq_eq_false_iff_ne.2 (by omega)
            have g4 : ((O i).kind == 4) = false := beq_eq_false_iff_ne.2 (by omega)
            have g6 : ((O i).kind == 6) = true := beq_iff_eq.2 hk
            have q0 : ∀ k, W6.cell? ⟨wr.heap.size, k, none⟩ = (#[.int .i64 (O i).kind, .int .i64 (O i).c.v, .int .i64 (O i).c.base, .int .i64 (O i).c.most, .int .i64 (O i).c.tries, .int .i64 (O i).c.losses, .int .i64 (O i).c.wait, .int .i64 (O i).c.raise, .int .i64 (O i).n, .int .i64 (O i).size, .int .i64 (O i).now] : Array Value)[k]? := fun k => hO.out.cell k
            have q1 : ∀ k, W6.cell? ⟨w.heap.size, k, none⟩ = (#[.int .i64 d.v, .int .i64 d.base, .int .i64 d.most, .int .i64 d.tries, .int .i64 d.losses, .int .i64 d.wait, .int .i64 d.raise] : Array Value)[k]? := fun k => HW6.out.box.cell k
            have q2 : ∀ k, W6.cell? ⟨w5.heap.size, k, none⟩ = (#[.int .i64 x.a, .int .i64 x.b, .bool x.yes, .int .i64 x.e, .int .i64 x.size, .int .i64 x.st] : Array Value)[k]? := fun k => hX.out.cell k
            clear hk
            by_cases hu : s.state = 1
            · have a4 : (s.state != 1) = false := bne_eq_false_iff_eq.2 hu
              clear hu
              go_wp2
              go_meet
              case rel => exact ⟨A, nu, u, sz, rfl, rfl, rfl, by omega, by omega, Lib.hid (HZ.out), Lib.hid (HW6.out), Lib.hid ⟨hO.out, hX.out⟩⟩
            · have a4 : (s.state != 1) = true := bne_iff_ne.2 hu
              have a5 : (x.st == 1) = false := beq_eq_false_iff_ne.2 (by rw [hxt.out, HE.out]; exact hu)
              clear hu
              go_wp2
              go_meet
              case rel => exact ⟨A, nu, u, sz, rfl, rfl, rfl, by omega, by omega, Lib.hid (HZ.out), Lib.hid (HW6.out), Lib.hid ⟨hO.out, hX.out⟩⟩
      case rest =>
        as_aux_lemma =>
        obtain ⟨A', nu', u', sz', rfl, rfl, rfl, hnu', hA', hS', hW', hB'⟩ := hcut
        clear hO hX HW6 HN HA3 HA4 HA5 HA6 l7
        have q0 : ∀ k, wc.cell? ⟨wr.heap.size, k, none⟩ = (#[.int .i64 (O i).kind, .int .i64 (O i).c.v, .int .i64 (O i).c.base, .int .i64 (O i).c.most, .int .i64 (O i).c.tries, .int .i64 (O i).c.losses, .int .i64 (O i).c.wait, .int .i64 (O i).c.raise, .int .i64 (O i).n, .int .i64 (O i).size, .int .i64 (O i).now] : Array Value)[k]? := fun k => hB'.out.1.cell k
        have q1 : ∀ k, wc.cell? ⟨w.heap.size, k, none⟩ = (#[.int .i64 d.v, .int .i64 d.base, .int .i64 d.most, .int .i64 d.tries, .int .i64 d.losses, .int .i64 d.wait, .int .i64 d.raise] : Array Value)[k]? := fun k => hW'.out.box.cell k
        have q2 : ∀ k, wc.cell? ⟨w5.heap.size, k, none⟩ = (#[.int .i64 x.a, .int .i64 x.b, .bool x.yes, .int .i64 x.e, .int .i64 x.size, .int .i64 x.st] : Array Value)[k]? := fun k => hB'.out.2.cell k
        have hm : 0 ≤ (O i).kind := by omega
        go_upto_region 54 with fail
        go_cut [244] (fun v wx => v = .bool (decide (t.state = 3 ∨ t.state = 4)) ∧ wx = wc)
        case first =>
          as_aux_lemma =>
          by_cases e3 : x.st = 3
          · have b3 : (x.st == 3) = true := beq_iff_eq.2 e3
            have be := decide_eq_true (p := t.state = 3 ∨ t.state = 4) (by rw [← hxt.out]; omega)
            clear e3
            go_wp2
            go_meet
            case rel => exact ⟨by rw [be], rfl⟩
          have b3 : (x.st == 3) = false := beq_eq_false_iff_ne.2 e3
          by_cases e4 : x.st = 4
          · have b4 : (x.st == 4) = true := beq_iff_eq.2 e4
            have be := decide_eq_true (p := t.state = 3 ∨ t.state = 4) (by rw [← hxt.out]; omega)
            clear e3 e4
            go_wp2
            go_meet
            case rel => exact ⟨by rw [be], rfl⟩
          · have b4 : (x.st == 4) = false := beq_eq_false_iff_ne.2 e4
            have be := decide_eq_false (p := t.state = 3 ∨ t.state = 4) (by rw [← hxt.out]; omega)
            clear e3 e4
            go_wp2
            go_meet
            case rel => exact ⟨by rw [be], rfl⟩
        case rest =>
        obtain ⟨rfl, rfl⟩ := hcut
        obtain ⟨b, hb⟩ : ∃ b, b = decide (t.state = 3 ∨ t.state = 4) := ⟨_, rfl⟩
        rw [← hb]
        have HBB := Lib.hid hb
        clear hb
        obtain ⟨uf, huf⟩ : ∃ uf, uf = (if t.state = 3 ∨ t.state = 4 then 0 else u') := ⟨_, rfl⟩
        have hS2 := hS'.out.wi
        rw [← huf] at hS2
        have HS2 := Lib.hid hS2
        have HUF := Lib.hid huf
        clear hS2 huf
        go_upto_if 244 with fail
        go_cut [10] (fun v wx => v = .int .i64 uf ∧ wx = wc)
        case first =>
          as_aux_lemma =>
          cases b
          · go_wp2
            go_meet
            case rel => exact ⟨by rw [HUF.out, if_neg (of_decide_eq_false HBB.out.symm)], rfl⟩
          · go_wp2
            go_meet
            case rel => exact ⟨by rw [HUF.out, if_pos (of_decide_eq_true HBB.out.symm)], rfl⟩
        case rest =>
        obtain ⟨rfl, rfl⟩ := hcut
        go_upto_region 56 with fail
        have c1 : decide (x.size < floorOf d.v) = false := decide_eq_false (by rw [hxs.out]; have := hS'.out.floor; omega)
        have c2 : decide (d.most < x.size) = false := decide_eq_false (by rw [hxs.out]; have := hS'.out.most; omega)
        have c3 : decide (x.st < 1) = false := decide_eq_false (by rw [hxt.out]; have := hS'.out.st; omega)
        have c4 : decide (4 < x.st) = false := decide_eq_false (by rw [hxt.out]; have := hS'.out.st; omega)
        go_cut [283] (fun v wx => v = .bool false ∧ Hid (WW w wx g w.heap.size w3.heap.size d t u8 A') ∧ Hid (Blk wx wr.heap.size 33 #[.int .i64 (O i).kind, .int .i64 (O i).c.v, .int .i64 (O i).c.base, .int .i64 (O i).c.most, .int .i64 (O i).c.tries, .int .i64 (O i).c.losses, .int .i64 (O i).c.wait, .int .i64 (O i).c.raise, .int .i64 (O i).n, .int .i64 (O i).size, .int .i64 (O i).now] ∧ Blk wx w5.heap.size 37 #[.int .i64 x.a, .int .i64 x.b, .bool x.yes, .int .i64 x.e, .int .i64 x.size, .int .i64 x.st]))
        case first =>
          as_aux_lemma =>
          by_cases e1 : s.size < x.size
          · have c5 : decide (s.size < x.size) = true := decide_eq_true e1
            by_cases e2 : (O i).kind = 3
            · have c6 : ((O i).kind != 3) = false := bne_eq_false_iff_eq.2 e2
              clear e1 e2
              go_quiet ((go_at_call 17; exact Calls.quiet_of_same ((least_calls _ _).mono fun _ _ h => ⟨h.1, h.2.symm⟩)))
              go_wp2
              go_meet
              case rel => exact ⟨rfl, Lib.hid (hW'.out.drewN _), Lib.hid ⟨hB'.out.1.drewN _, hB'.out.2.drewN _⟩⟩
            · have c6 : ((O i).kind != 3) = true := bne_iff_ne.2 e2
              have c7 : (x.st != 1) = false := bne_eq_false_iff_eq.2 (by
                rw [hxt.out]
                rcases HG.out with h | h | h
                · exact absurd h e2
                · exact h
                · rw [hxs.out] at e1; omega)
              clear e1 e2
              go_quiet ((go_at_call 17; exact Calls.quiet_of_same ((least_calls _ _).mono fun _ _ h => ⟨h.1, h.2.symm⟩)))
              go_wp2
              go_meet
              case rel => exact ⟨rfl, Lib.hid (hW'.out.drewN _), Lib.hid ⟨hB'.out.1.drewN _, hB'.out.2.drewN _⟩⟩
          · have c5 : decide (s.size < x.size) = false := decide_eq_false e1
            clear e1
            go_quiet ((go_at_call 17; exact Calls.quiet_of_same ((least_calls _ _).mono fun _ _ h => ⟨h.1, h.2.symm⟩)))
            go_wp2
            go_meet
            case rel => exact ⟨rfl, Lib.hid (hW'.out.drewN _), Lib.hid ⟨hB'.out.1.drewN _, hB'.out.2.drewN _⟩⟩
        case rest =>
        clear q0 q1 q2 c1 c2 c3 c4 hW' hB'
        rename_i wo
        obtain ⟨rfl, hW', hB'⟩ := hcut
        have q0 : ∀ k, wc.cell? ⟨wr.heap.size, k, none⟩ = (#[.int .i64 (O i).kind, .int .i64 (O i).c.v, .int .i64 (O i).c.base, .int .i64 (O i).c.most, .int .i64 (O i).c.tries, .int .i64 (O i).c.losses, .int .i64 (O i).c.wait, .int .i64 (O i).c.raise, .int .i64 (O i).n, .int .i64 (O i).size, .int .i64 (O i).now] : Array Value)[k]? := fun k => hB'.out.1.cell k
        have q1 : ∀ k, wc.cell? ⟨w.heap.size, k, none⟩ = (#[.int .i64 d.v, .int .i64 d.base, .int .i64 d.most, .int .i64 d.tries, .int .i64 d.losses, .int .i64 d.wait, .int .i64 d.raise] : Array Value)[k]? := fun k => hW'.out.box.cell k
        have q2 : ∀ k, wc.cell? ⟨w5.heap.size, k, none⟩ = (#[.int .i64 x.a, .int .i64 x.b, .bool x.yes, .int .i64 x.e, .int .i64 x.size, .int .i64 x.st] : Array Value)[k]? := fun k => hB'.out.2.cell k
        have hkn : t.size ≤ d.base ∨ t.size ∈ A' := hS'.out.known
        rw [← hxs.out] at hkn
        have HKN := Lib.hid hkn
        clear hkn HG HBB HUF kn km xe ke kf hS'
        obtain ⟨wo, rfl⟩ : ∃ wo : World, wo = wr := ⟨_, rfl⟩
        go_upto_block 3 with fail
        go_cut [19] (fun v wx => v = .bool true ∧ Hid (WW w wx g w.heap.size w3.heap.size d t u8 A') ∧ Hid (Blk wx wo.heap.size 33 #[.int .i64 (O i).kind, .int .i64 (O i).c.v, .int .i64 (O i).c.base, .int .i64 (O i).c.most, .int .i64 (O i).c.tries, .int .i64 (O i).c.losses, .int .i64 (O i).c.wait, .int .i64 (O i).c.raise, .int .i64 (O i).n, .int .i64 (O i).size, .int .i64 (O i).now] ∧ Blk wx w5.heap.size 37 #[.int .i64 x.a, .int .i64 x.b, .bool x.yes, .int .i64 x.e, .int .i64 x.size, .int .i64 x.st]))
        case first =>
          as_aux_lemma =>
          have hrow := hW'.out.row.2
          clear q0 q1 q2
          rcases hrow with ⟨rfl, hn8⟩ | ⟨gb, cp, cur, rfl, hgb, hcur, hcp, hcm, hcs, hct⟩
          · go_wp2_with fail
            go_loopg [19, 20] A'.length (fun kq v19 v20 wx => v20 = .int .i64 0 ∧ v19 = .bool (decide (x.size ≤ d.base)) ∧ Hid (WW w wx g w.heap.size w3.heap.size d t (.slice none 0 0) A') ∧ Hid (Blk wx wo.heap.size 33 #[.int .i64 (O i).kind, .int .i64 (O i).c.v, .int .i64 (O i).c.base, .int .i64 (O i).c.most, .int .i64 (O i).c.tries, .int .i64 (O i).c.losses, .int .i64 (O i).c.wait, .int .i64 (O i).c.raise, .int .i64 (O i).n, .int .i64 (O i).size, .int .i64 (O i).now] ∧ Blk wx w5.heap.size 37 #[.int .i64 x.a, .int .i64 x.b, .bool x.yes, .int .i64 x.e, .int .i64 x.size, .int .i64 x.st]))
            case atStart => exact ⟨rfl, rfl, hW', hB'⟩
            case round =>
              obtain ⟨rfl, rfl, hW2, hB2⟩ := hrel
              have hb : x.size ≤ d.base := by
                rcases HKN.out with h | h
                · exact h
                · rw [List.eq_nil_of_length_eq_zero hn8] at h; cases h
              have hbt := decide_eq_true hb
              clear hb
              go_wp2_with fail
              go_meet
              case rel => exact ⟨by rw [hbt], hW2, hB2⟩
          · clear hcur hct hcs
            go_wp2_with fail
            go_loopg [19, 20] A'.length (fun kq v19 v20 wx => ∃ k : Nat, v20 = .int .i64 k ∧ k + kq = A'.length ∧ v19 = .bool (decide (x.size ≤ d.base ∨ x.size ∈ A'.take k)) ∧ Hid (WW w wx g w.heap.size w3.heap.size d t (.slice (some ⟨gb, 0, none⟩) A'.length cp) A') ∧ Hid (Blk wx wo.heap.size 33 #[.int .i64 (O i).kind, .int .i64 (O i).c.v, .int .i64 (O i).c.base, .int .i64 (O i).c.most, .int .i64 (O i).c.tries, .int .i64 (O i).c.losses, .int .i64 (O i).c.wait, .int .i64 (O i).c.raise, .int .i64 (O i).n, .int .i64 (O i).size, .int .i64 (O i).now] ∧ Blk wx w5.heap.size 37 #[.int .i64 x.a, .int .i64 x.b, .bool x.yes, .int .i64 x.e, .int .i64 x.size, .int .i64 x.st]))
            case atStart => exact ⟨0, rfl, by omega, by simp, hW', hB'⟩
            case round =>
              clear hW' hB'
              obtain ⟨k, rfl, hk, rfl, hW2, hB2⟩ := hrel
              by_cases hkl : k < A'.length
              · obtain ⟨z, hz⟩ : ∃ z, A'[k]? = some z := ⟨A'[k], List.getElem?_eq_getElem hkl⟩
                have hcell := hW2.out.row.cells rfl k (.int .i64 z) (by rw [List.getElem?_map, hz]; rfl)
                have hc : wr.cell? ⟨gb, k, none⟩ = some (.int .i64 z) := by rw [← hcell, add_at]
                have q2 : ∀ k, wr.cell? ⟨w5.heap.size, k, none⟩ = (#[.int .i64 x.a, .int .i64 x.b, .bool x.yes, .int .i64 x.e, .int .i64 x.size, .int .i64 x.st] : Array Value)[k]? := fun k => hB2.out.2.cell k
                have hmt := mem_take_succ (y := x.size) hz
                have HMT := Lib.hid hmt
                have HZ := Lib.hid hz
                clear hmt hz hcell
                obtain ⟨b1, hb1⟩ : ∃ b1, b1 = decide (x.size ≤ d.base ∨ x.size ∈ A'.take k) := ⟨_, rfl⟩
                rw [← hb1]
                have HB1 := Lib.hid hb1
                clear hb1
                cases b1
                · by_cases hzx : z = x.size
                  · have e1 : (z == x.size) = true := beq_iff_eq.2 hzx
                    have HE : Hid (decide (x.size ≤ d.base ∨ x.size ∈ A'.take (k + 1)) = true) := Lib.hid (decide_eq_true (.inr (HMT.out.2 (.inr hzx))))
                    clear hzx
                    go_wp2_with fail
                    go_quiet (fail)
                    go_wp2_with fail
                    go_roundg (A'.length - k - 1)
                    case measure => omega
                    case rel => exact ⟨k + 1, by go_num, by omega, by rw [HE.out], Lib.hid (hW2.out.drewN _), Lib.hid ⟨hB2.out.1.drewN _, hB2.out.2.drewN _⟩⟩
                  · have e1 : (z == x.size) = false := beq_eq_false_iff_ne.2 hzx
                    have HE : Hid (decide (x.size ≤ d.base ∨ x.size ∈ A'.take (k + 1)) = false) := Lib.hid (decide_eq_false (by
                      have hb := of_decide_eq_false HB1.out.symm
                      rintro (h | h)
                      · exact hb (.inl h)
                      · rcases HMT.out.1 h with h | h
                        · exact hb (.inr h)
                        · exact hzx h))
                    clear hzx
                    go_wp2_with fail
                    go_quiet (fail)
                    go_wp2_with fail
                    go_roundg (A'.length - k - 1)
                    case measure => omega
                    case rel => exact ⟨k + 1, by go_num, by omega, by rw [HE.out], Lib.hid (hW2.out.drewN _), Lib.hid ⟨hB2.out.1.drewN _, hB2.out.2.drewN _⟩⟩
                · have HE : Hid (decide (x.size ≤ d.base ∨ x.size ∈ A'.take (k + 1)) = true) := Lib.hid (decide_eq_true (by
                    rcases of_decide_eq_true HB1.out.symm with h | h
                    · exact .inl h
                    · exact .inr (HMT.out.2 (.inl h))))
                  go_wp2_with fail
                  go_quiet (fail)
                  go_wp2_with fail
                  go_roundg (A'.length - k - 1)
                  case measure => omega
                  case rel => exact ⟨k + 1, by go_num, by omega, by rw [HE.out], Lib.hid (hW2.out.drewN _), Lib.hid ⟨hB2.out.1.drewN _, hB2.out.2.drewN _⟩⟩
              · have hke : k = A'.length := by omega
                have HE : Hid (decide (x.size ≤ d.base ∨ x.size ∈ A'.take k) = true) := Lib.hid (decide_eq_true (by rw [hke, List.take_length]; exact HKN.out))
                have hnl : decide ((k : Int) < A'.length) = false := decide_eq_false (by omega)
                clear hke
                go_wp2_with fail
                go_meet
                case rel => exact ⟨by rw [HE.out], hW2, hB2⟩
        case rest =>
        as_aux_lemma =>
        clear q0 q1 q2 hW' hB'
        obtain ⟨rfl, hW', hB'⟩ := hcut
        go_wp2_with fail
        go_roundg (n - i - 1)
        case measure => omega
        case rel => exact ⟨i + 1, t, A', nu', uf, sz', (O i).now, by go_num, rfl, rfl, rfl, rfl, by omega, by omega, by omega, HS2, hW'⟩
    · as_aux_lemma =>
      go_wp2_with fail
      go_ret
      exact ⟨rfl, hW.out.below⟩
end Go.Proofs.Ytmanojnhjhpokaa.PB
