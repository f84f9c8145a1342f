/- The walk of ProbePlays: it answers true, and leaves alone all memory that was there. Conditions: the script is read from its cells, and is no longer than a slice may be. -/
import Derived.Test.YtmanojnhjhpokaaWiB
import Derived.Test.YtmanojnhjhpokaaRU
import Derived.Test.YtmanojnhjhpokaaRW
import Derived.Deep.LoopGhost
import Derived.Deep.DeepCutAuto
import Derived.Deep.CutBlock
namespace Go.Proofs.Ytmanojnhjhpokaa.PB
set_option linter.unusedVariables false
set_option linter.unusedSimpArgs false
open Go.RowKit
theorem must_of (K : Int) (s : Pt) (r : Rt) (x : Ans) (g : Nat) (o : Op) (w : World) (hx : Hid (x = s.says o)) (h : Ri w g r) (hs : Sim s r) (hi : Inv K s) (hb : Rb r) (hK : K + 1 ≤ 1125899906842624) :
    Calls Try.prog 13 #[.pointer (some ⟨g, 0, none⟩), .agg #[.int .i64 o.kind, .int .i64 o.c.v, .int .i64 o.c.base, .int .i64 o.c.most, .int .i64 o.c.tries, .int .i64 o.c.losses, .int .i64 o.c.wait, .int .i64 o.c.raise, .int .i64 o.n, .int .i64 o.size, .int .i64 o.now]] w fun e w' => ∃ r2 : Rt,
      e = .returned (.agg #[.int .i64 x.a, .int .i64 x.b, .bool x.yes, .int .i64 x.e, .int .i64 x.size, .int .i64 x.st]) ∧ Sim (s.after o) r2 ∧ Rb r2 ∧ Put w w' g 70 r2.cells := by
  rw [hx.out]; exact must_any K s r g o w h hs hi hb hK
theorem new_of (c : Cfg) (w : World) : Calls Try.prog 9 #[.agg #[.int .i64 c.v, .int .i64 c.base, .int .i64 c.most, .int .i64 c.tries, .int .i64 c.losses, .int .i64 c.wait, .int .i64 c.raise]] w fun e w' => (c.Ok → Made c w e w') ∧ (¬ c.Ok → Refused w e w') := new_calls c w
/-- Two paths that go together, or none. -/
structure Two (w wr : World) (gO : Nat) (i : Int) (g gr : Nat) (s : Pt) (r : Rt) : Prop where
  is : Is wr g s
  ri : Ri wr gr r
  sim : Sim s r
  inv : Inv i s
  rb : Rb r
  ne : ¬ g = gO
  g0 : w.heap.size ≤ g
  r0 : w.heap.size ≤ gr
structure PlW (w wr : World) (gO : Nat) (i : Int) (v4 v5 : Value) : Prop where
  other : Is wr gO usualC.path
  o0 : w.heap.size ≤ gO
  below : Below w.heap.size w wr
  pair : (v4 = .pointer none ∧ v5 = .pointer none) ∨ ∃ g gr s r, v4 = .pointer (some ⟨g, 0, none⟩) ∧ v5 = .pointer (some ⟨gr, 0, none⟩) ∧ Two w wr gO i g gr s r
section
variable {w wr : World} {gO : Nat} {i : Int} {v4 v5 : Value}
theorem Two.below_ {g gr : Nat} {s : Pt} {r : Rt} (h : Two w wr gO i g gr s r) {w1 : World} (hb : Below wr.heap.size wr w1) : Two w w1 gO i g gr s r :=
  ⟨h.is.below_ hb, h.ri.below_ hb, h.sim, h.inv, h.rb, h.ne, h.g0, h.r0⟩
theorem PlW.later (h : PlW w wr gO i v4 v5) {w1 : World} (hb : Below wr.heap.size wr w1) : PlW w w1 gO i v4 v5 :=
  ⟨h.other.below_ hb, h.o0, h.below.trans (hb.mono h.below.size), by
    rcases h.pair with h | ⟨g, gr, s, r, a, b, c⟩
    · exact .inl h
    · exact .inr ⟨g, gr, s, r, a, b, c.below_ hb⟩⟩
theorem PlW.alloc (h : PlW w wr gO i v4 v5) (o : Obj) : PlW w (wr.alloc o) gO i v4 v5 := h.later ((Below.refl _ _).alloc (Nat.le_refl _) o)
theorem PlW.drewN (h : PlW w wr gO i v4 v5) (k : Nat) : PlW w (wr.drewN k) gO i v4 v5 := h.later (bdn (Below.refl _ _) k)
theorem PlW.mono (h : PlW w wr gO i v4 v5) {j : Int} (hj : i ≤ j) : PlW w wr gO j v4 v5 :=
  ⟨h.other, h.o0, h.below, by
    rcases h.pair with h | ⟨g, gr, s, r, a, b, c⟩
    · exact .inl h
    · exact .inr ⟨g, gr, s, r, a, b, ⟨c.is, c.ri, c.sim, c.inv.mono hj, c.rb, c.ne, c.g0, c.r0⟩⟩⟩
/-- Behind a New of both. -/
theorem PlW.fresh (h : PlW w wr gO i v4 v5) (hi : 0 ≤ i) {c : Cfg} (hc : c.Ok) {w1 w2 : World} {g gr : Nat} (h1 : wr.heap.size ≤ g) (hg : Is w1 g c.path) (b1 : Below wr.heap.size wr w1) (h2 : w1.heap.size ≤ gr) (hr : Ri w2 gr c.rpath) (b2 : Below w1.heap.size w1 w2) :
    PlW w w2 gO i (.pointer (some ⟨g, 0, none⟩)) (.pointer (some ⟨gr, 0, none⟩)) := by
  have hb := b1.trans (b2.mono b1.size)
  have hl := h.other.lt
  have hs := h.below.size
  have hs1 := b1.size
  exact ⟨h.other.below_ hb, h.o0, (h.later hb).below, .inr ⟨g, gr, c.path, c.rpath, rfl, rfl, ⟨hg.below_ b2, hr, c.sim, (path_inv hc).mono hi, c.rb, by omega, by omega, by omega⟩⟩⟩
/-- Behind a call of both. -/
theorem Two.both {g gr : Nat} {s t : Pt} {r r2 : Rt} (h : PlW w wr gO i v4 v5) (h2 : Two w wr gO i g gr s r) {w1 w2 : World} (hp : Put wr w1 g 66 t.cells) (hr : Put w1 w2 gr 70 r2.cells) (hs : Sim t r2) (hi : Inv (i + 1) t) (hb : Rb r2) (e4 : v4 = .pointer (some ⟨g, 0, none⟩)) (e5 : v5 = .pointer (some ⟨gr, 0, none⟩)) :
    PlW w w2 gO (i + 1) v4 v5 := by
  have n1 : ¬ g = gr := h2.is.ne_ h2.ri (by decide)
  have n2 : ¬ gO = gr := h.other.ne_ h2.ri (by decide)
  have k1 : Is w1 gO usualC.path := put_blk hp h.other (fun e => h2.ne e.symm)
  have k2 : Is w2 gO usualC.path := put_blk hr k1 n2
  exact ⟨k2, h.o0, hr.below (hp.below h.below h2.g0) h2.r0, .inr ⟨g, gr, t, r2, e4, e5, ⟨put_blk hr hp.blk n1, hr.blk, hs, hi, hb, h2.ne, h2.g0, h2.r0⟩⟩⟩
end
set_option maxRecDepth 100000 in
set_option maxHeartbeats 16000000 in
theorem plays_walk (A0 : Option Addr) (n cap : Nat) (O : Nat → Op) (w : World) (hs : Hid (0 < n → ∃ a, A0 = some a ∧ Script w a n O)) (hn : n ≤ 1599289640354) :
    Calls Try.prog 3 #[.slice A0 n cap] w fun e w' => e = .returned (.bool true) ∧ Below w.heap.size w w' := by
  go_enter Try.func3, Try.ntmps3
  go_wp2_with fail
  refine (alive_calls _).mono ?_
  rintro e w1 ⟨rfl, hb1⟩
  have hz1 : w.heap.size ≤ w1.heap.size := hb1.size
  have B1 := Lib.hid hb1
  clear hb1
  go_wp2_with fail
  refine (usual_calls w1).mono ?_
  rintro e w2 ⟨rfl, hb2⟩
  have hz2 : w1.heap.size ≤ w2.heap.size := hb2.size
  have B2 := Lib.hid (B1.out.trans (hb2.mono hz1))
  clear hb2 B1
  go_wp2_with fail
  refine (new_calls usualC w2).mono ?_
  rintro e w3 ⟨hm, -⟩
  obtain ⟨gO, rfl, hg, hI, hb3⟩ := hm usual_ok
  have PL : Hid (PlW w w3 gO 0 (.pointer none) (.pointer none)) := Lib.hid ⟨hI, by omega, B2.out.trans (hb3.mono (by omega)), .inl ⟨rfl, rfl⟩⟩
  clear hm hg hI hb3 B2 hz1 hz2
  go_wp2_with fail
  go_loopg [4, 5, 8] n (fun kq v4 v5 v8 wr => ∃ i : Nat, v8 = .int .i64 i ∧ i + kq = n ∧ Hid (PlW w wr gO i v4 v5))
  case atStart => exact ⟨0, rfl, by omega, PL⟩
  case round =>
    clear PL
    obtain ⟨i, rfl, hi, hP⟩ := hrel
    by_cases hlt : i < n
    · as_aux_lemma =>
      obtain ⟨a, rfl, hsc⟩ := hs.out (by omega)
      obtain ⟨f0, f1, f2, f3, f4, f5, f6, f7, f8, f9, f10⟩ := (hsc i hlt).below hP.out.below
      clear hsc
      go_upto_if 40 with fail
      refine wp_named fun W6 hW6 => ?_
      have hO : Hid (Blk W6 wr.heap.size 33 #[.int .i64 (O i).kind, .int .i64 (O i).c.v, .int .i64 (O i).c.base, .int .i64 (O i).c.most, .int .i64 (O i).c.tries, .int .i64 (O i).c.losses, .int .i64 (O i).c.wait, .int .i64 (O i).c.raise, .int .i64 (O i).n, .int .i64 (O i).size, .int .i64 (O i).now]) := Lib.hid (by rw [hW6]; exact Blk.new wr 33 _)
      have HP : Hid (PlW w W6 gO i u4 u5) := Lib.hid (by rw [hW6]; exact hP.out.alloc _)
      have l6 : wr.heap.size < W6.heap.size := hO.out.lt
      obtain ⟨bo, hbo⟩ : ∃ bo, bo = wr.heap.size := ⟨_, rfl⟩
      rw [← hbo] at hO l6 ⊢
      clear hW6 hP f0 f1 f2 f3 f4 f5 f6 f7 f8 f9 f10 hbo
      go_cut [4, 5] (fun v4 v5 wx => Hid (PlW w wx gO i v4 v5) ∧ Hid (Blk wx bo 33 #[.int .i64 (O i).kind, .int .i64 (O i).c.v, .int .i64 (O i).c.base, .int .i64 (O i).c.most, .int .i64 (O i).c.tries, .int .i64 (O i).c.losses, .int .i64 (O i).c.wait, .int .i64 (O i).c.raise, .int .i64 (O i).n, .int .i64 (O i).size, .int .i64 (O i).now]))
      case first =>
        as_aux_lemma =>
        have q0 : ∀ k, W6.cell? ⟨bo, k, none⟩ = (#[.int .i64 (O i).kind, .int .i64 (O i).c.v, .int .i64 (O i).c.base, .int .i64 (O i).c.most, .int .i64 (O i).c.tries, .int .i64 (O i).c.losses, .int .i64 (O i).c.wait, .int .i64 (O i).c.raise, .int .i64 (O i).n, .int .i64 (O i).size, .int .i64 (O i).now] : Array Value)[k]? := fun k => hO.out.cell k
        by_cases k1 : (O i).kind = 1
        · have k1t : ((O i).kind == 1) = true := beq_iff_eq.2 k1
          clear k1
          go_wp2_with fail
          refine (new_of (O i).c _).mono ?_
          rintro e w7 hM
          by_cases hok : (O i).c.Ok
          · obtain ⟨g, rfl, hg, hI, hb⟩ := hM.1 hok
            have q1 : ∀ k, w7.cell? ⟨bo, k, none⟩ = (#[.int .i64 (O i).kind, .int .i64 (O i).c.v, .int .i64 (O i).c.base, .int .i64 (O i).c.most, .int .i64 (O i).c.tries, .int .i64 (O i).c.losses, .int .i64 (O i).c.wait, .int .i64 (O i).c.raise, .int .i64 (O i).n, .int .i64 (O i).size, .int .i64 (O i).now] : Array Value)[k]? := fun k => (hO.out.below_ hb).cell k
            have HI := Lib.hid hI
            have HB := Lib.hid hb
            have HOK := Lib.hid hok
            have hO7 := Lib.hid (hO.out.below_ hb)
            clear hM hI hb hok q0
            go_wp2_with fail
            refine (rnew_calls (O i).c _).mono ?_
            rintro e w8 hM
            obtain ⟨gr, rfl, hgr, hR, hb2⟩ := hM.1 HOK.out
            have HP8 := Lib.hid (HP.out.fresh (by omega) HOK.out hg HI.out HB.out hgr hR hb2)
            have hO8 := Lib.hid (hO7.out.below_ hb2)
            clear hM hR hb2 q1
            go_wp2_with fail
            go_meet
            case rel => exact ⟨HP8, hO8⟩
          · obtain ⟨rfl, hb⟩ := hM.2 hok
            have q1 : ∀ k, w7.cell? ⟨bo, k, none⟩ = (#[.int .i64 (O i).kind, .int .i64 (O i).c.v, .int .i64 (O i).c.base, .int .i64 (O i).c.most, .int .i64 (O i).c.tries, .int .i64 (O i).c.losses, .int .i64 (O i).c.wait, .int .i64 (O i).c.raise, .int .i64 (O i).n, .int .i64 (O i).size, .int .i64 (O i).now] : Array Value)[k]? := fun k => (hO.out.below_ hb).cell k
            have HP7 := Lib.hid (HP.out.later hb)
            have HOK := Lib.hid hok
            have hO7 := Lib.hid (hO.out.below_ hb)
            clear hM hb hok q0
            go_wp2_with fail
            refine (rnew_calls (O i).c _).mono ?_
            rintro e w8 hM
            obtain ⟨rfl, hb2⟩ := hM.2 HOK.out
            have HP8 := Lib.hid (HP7.out.later hb2)
            have hO8 := Lib.hid (hO7.out.below_ hb2)
            clear hM hb2 q1
            go_wp2_with fail
            go_meet
            case rel => exact ⟨HP8, hO8⟩
        · have k1t : ((O i).kind == 1) = false := beq_eq_false_iff_ne.2 k1
          clear k1
          go_wp2_with fail
          go_meet
          case rel => exact ⟨HP, hO⟩
      case rest =>
      as_aux_lemma =>
      clear HP hO
      obtain ⟨HP, hO⟩ := hcut
      have q0 : ∀ k, wc.cell? ⟨bo, k, none⟩ = (#[.int .i64 (O i).kind, .int .i64 (O i).c.v, .int .i64 (O i).c.base, .int .i64 (O i).c.most, .int .i64 (O i).c.tries, .int .i64 (O i).c.losses, .int .i64 (O i).c.wait, .int .i64 (O i).c.raise, .int .i64 (O i).n, .int .i64 (O i).size, .int .i64 (O i).now] : Array Value)[k]? := fun k => hO.out.cell k
      go_upto_region 21 with fail
      have hpair := HP.out.pair
      rcases hpair with ⟨rfl, rfl⟩ | ⟨g, gr, s, r, e4, e5, h2⟩
      · go_quiet (fail)
        go_wp2_with fail
        go_roundg (gk - 1)
        case measure => omega
        case rel => exact ⟨i + 1, by go_num, by omega, Lib.hid ((HP.out.drewN _).mono (by omega))⟩
      · have hlg : g < wc.heap.size := h2.is.lt
        have hlo : bo < wc.heap.size := hO.out.lt
        have hng : ¬ bo = g := hO.out.ne_ h2.is (by decide)
        have hngr : ¬ gr = g := fun e => (h2.is.ne_ h2.ri (by decide)) e.symm
        have H2 := Lib.hid h2
        obtain ⟨x, hx⟩ : ∃ x, x = s.says (O i) := ⟨_, rfl⟩
        obtain ⟨t, ht⟩ : ∃ t, t = s.after (O i) := ⟨_, rfl⟩
        have Hx := Lib.hid hx
        have Ht := Lib.hid ht
        have HIN : Hid (Inv ((i : Int) + 1) t) := Lib.hid (by rw [ht]; exact h2.inv.after (O i))
        clear h2 hx ht
        subst e4 e5
        go_region_with (first
          | (go_at_call 12; (with_reducible refine (does_of i s t x g (O i) _ Hx Ht ?q1 H2.out.inv (by omega)).mono ?_); (case q1 => first | exact H2.out.is | exact H2.out.is.drew | exact H2.out.is.drewN _); rintro e w7 ⟨rfl, hp7⟩; (have q2 : ∀ k, w7.cell? ⟨bo, k, none⟩ = (#[.int .i64 (O i).kind, .int .i64 (O i).c.v, .int .i64 (O i).c.base, .int .i64 (O i).c.most, .int .i64 (O i).c.tries, .int .i64 (O i).c.losses, .int .i64 (O i).c.wait, .int .i64 (O i).c.raise, .int .i64 (O i).n, .int .i64 (O i).size, .int .i64 (O i).now] : Array Value)[k]? := fun k => (put_blk hp7 hO.out hng).cell k))
          | (go_at_call 13; (with_reducible refine (must_of i s r x gr (O i) _ Hx ?q1 H2.out.sim H2.out.inv H2.out.rb (by omega)).mono ?_); (case q1 => exact put_blk hp7 H2.out.ri hngr); rintro e w8 ⟨r2, rfl, hs2, hb2, hp8⟩; (have q3 : ∀ k, w8.cell? ⟨bo, k, none⟩ = (#[.int .i64 (O i).kind, .int .i64 (O i).c.v, .int .i64 (O i).c.base, .int .i64 (O i).c.most, .int .i64 (O i).c.tries, .int .i64 (O i).c.losses, .int .i64 (O i).c.wait, .int .i64 (O i).c.raise, .int .i64 (O i).n, .int .i64 (O i).size, .int .i64 (O i).now] : Array Value)[k]? := fun k => (put_blk hp8 (put_blk hp7 hO.out hng) (fun e => (hO.out.ne_ H2.out.ri (by decide)) e)).cell k)))
        all_goals
          go_wp2_with fail
          go_roundg (gk - 1)
          case measure => omega
          case rel => exact ⟨i + 1, by go_num, by omega, Lib.hid ((Two.both (HP.out.later (bdn1 (Below.refl _ _))) (H2.out.below_ (bdn1 (Below.refl _ _))) hp7 hp8 (by rw [Ht.out]; exact hs2) HIN.out hb2 rfl rfl).mono (by omega))⟩
    · as_aux_lemma =>
      have us1 : Hid (usualC.path.state = 1) := Lib.hid rfl
      have us2 : Hid (usualC.path.size = 1000) := Lib.hid (by decide)
      have HI := Lib.hid hP.out.other
      go_wp2_with (first | (go_at_call 14; (with_reducible refine (state_same usualC.path gO _ HI.out).mono ?_); rintro e w' ⟨rfl, rfl⟩; rw [us1.out]) | (go_at_call 15; (with_reducible refine (size_same usualC.path gO _ HI.out).mono ?_); rintro e w' ⟨rfl, rfl⟩; rw [us2.out]))
      go_ret
      exact ⟨rfl, hP.out.below⟩
end Go.Proofs.Ytmanojnhjhpokaa.PB
