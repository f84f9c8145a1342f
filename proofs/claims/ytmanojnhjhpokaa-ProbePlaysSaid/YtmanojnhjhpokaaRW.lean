/- Contract of the reference's New: it refuses what the chapter refuses, else it makes the path. Conditions: none. -/
import Derived.Test.YtmanojnhjhpokaaRM
import Derived.Test.YtmanojnhjhpokaaWiB
import Derived.Deep.LoopGhost
import Derived.Deep.DeepCutAuto
import Derived.Deep.CutBlock
namespace Go.Proofs.Ytmanojnhjhpokaa.PB
set_option linter.unusedVariables false
set_option linter.unusedSimpArgs false
open Go.RowKit
def Cfg.rpath (c : Cfg) : Rt := { v := c.v, base := c.base, most := c.most, mtries := c.tries, mlosses := c.losses, wait := c.wait, raise := c.raise, st := 1, low := 0, high := 0, hint := 0, told := false, tries := 0, is := false, number := 0, usize := 0, at_ := 0, losses := 0, since := 0, last := 0, given := 0 }
theorem Cfg.sim (c : Cfg) : Sim c.path c.rpath := ⟨⟨rfl, rfl, rfl, rfl, rfl, rfl, rfl⟩, rfl, rfl, rfl, rfl, fun h => absurd h (by show ¬ (0 : Int) < 0; decide), rfl, rfl, fun h => absurd h (by show ¬ (0 : Int) < 0; decide), fun h => absurd h (by show ¬ (0 : Int) < 0; decide), rfl, rfl, rfl, rfl⟩
theorem Cfg.rb (c : Cfg) : Rb c.rpath := ⟨⟨Int.le_refl _, (show (0 : Int) ≤ 1099511627776 by decide)⟩, Int.le_refl _, (show (0 : Int) ≤ 65535 by decide)⟩
def Ok1 (c : Cfg) : Prop := (c.v = 4 ∨ c.v = 6) ∧ floorOf c.v ≤ c.base ∧ c.base ≤ c.most ∧ c.most ≤ 65535 ∧ 1 ≤ c.tries ∧ c.tries ≤ 16 ∧ 1 ≤ c.losses ∧ c.losses ≤ 64
instance (c : Cfg) : Decidable (Ok1 c) := inferInstanceAs (Decidable (_ ∧ _))
def Ok2 (c : Cfg) : Prop := 1 ≤ c.wait ∧ c.wait ≤ 1099511627776 ∧ 1 ≤ c.raise ∧ c.raise ≤ 1099511627776
theorem Cfg.ok_iff (c : Cfg) : c.Ok ↔ Ok1 c ∧ Ok2 c :=
  ⟨fun h => ⟨⟨h.v, h.base, h.most, h.most1, h.tries.1, h.tries.2, h.losses.1, h.losses.2⟩, h.wait.1, h.wait.2, h.raise.1, h.raise.2⟩,
   fun h => ⟨h.1.1, h.1.2.1, h.1.2.2.1, h.1.2.2.2.1, ⟨h.1.2.2.2.2.1, h.1.2.2.2.2.2.1⟩, ⟨h.1.2.2.2.2.2.2.1, h.1.2.2.2.2.2.2.2⟩, ⟨h.2.1, h.2.2.1⟩, h.2.2.2⟩⟩
def RMade (c : Cfg) (w : World) (e : Ending) (w' : World) : Prop := ∃ g, e = .returned (.tuple #[.pointer (some ⟨g, 0, none⟩), .int .i64 0]) ∧ w.heap.size ≤ g ∧ Ri w' g c.rpath ∧ Below w.heap.size w w'
set_option maxRecDepth 100000 in
set_option maxHeartbeats 8000000 in
theorem rnew_calls (c : Cfg) (w : World) : Calls Try.prog 11 #[.agg #[.int .i64 c.v, .int .i64 c.base, .int .i64 c.most, .int .i64 c.tries, .int .i64 c.losses, .int .i64 c.wait, .int .i64 c.raise]] w fun e w' => (c.Ok → RMade c w e w') ∧ (¬ c.Ok → Refused w e w') := by
  obtain ⟨P, hP⟩ : ∃ P : Ending → World → Prop, P = fun e w' => (c.Ok → RMade c w e w') ∧ (¬ c.Ok → Refused w e w') := ⟨_, rfl⟩
  rw [← hP]
  have HP := Lib.hid hP
  clear hP
  go_enter Try.func11, Try.ntmps11
  go_upto_region 1 with fail
  refine wp_named fun w1 hw1 => ?_
  have HB : Hid (Blk w1 w.heap.size 30 #[.int .i64 c.v, .int .i64 c.base, .int .i64 c.most, .int .i64 c.tries, .int .i64 c.losses, .int .i64 c.wait, .int .i64 c.raise] ∧ Below w.heap.size w w1) := Lib.hid (by rw [hw1]; exact ⟨Blk.new w 30 _, (Below.refl _ _).alloc (Nat.le_refl _) _⟩)
  clear hw1
  have x1 : ∀ i, w1.cell? ⟨w.heap.size, i, none⟩ = (#[.int .i64 c.v, .int .i64 c.base, .int .i64 c.most, .int .i64 c.tries, .int .i64 c.losses, .int .i64 c.wait, .int .i64 c.raise] : Array Value)[i]? := fun i => HB.out.1.cell i
  go_cut [51] (fun v wx => v = .bool (decide (¬ Ok1 c)) ∧ Hid (Blk wx w.heap.size 30 #[.int .i64 c.v, .int .i64 c.base, .int .i64 c.most, .int .i64 c.tries, .int .i64 c.losses, .int .i64 c.wait, .int .i64 c.raise] ∧ Below w.heap.size w wx))
  case first =>
    by_cases v4 : c.v = 4
    · by_cases b1 : c.base < floorOf c.v
      · have hd : decide (¬ Ok1 c) = true := decide_eq_true (fun k => by unfold Ok1 at k; omega)
        have HD := Lib.hid hd
        clear hd
        have v4_t : (c.v == 4) = true := beq_iff_eq.2 v4
        have v4_u : (c.v != 4) = false := bne_eq_false_iff_eq.2 v4
        have b1_t : decide (c.base < floorOf c.v) = true := decide_eq_true b1
        clear b1
        (try clear v4); (try clear v6); (try clear b1); (try clear b2); (try clear b3); (try clear b4); (try clear b5); (try clear b6); (try clear b7)
        go_quiet ((go_at_call 27; exact Calls.quiet_of_same ((rfloor_calls _ _).mono fun _ _ h => ⟨h.1, h.2.symm⟩)))
        go_wp2
        go_meet
        case rel => exact ⟨by rw [HD.out], Lib.hid ⟨(HB.out.1.drewN _), bdn HB.out.2 _⟩⟩
      · by_cases b2 : c.most < c.base
        · have hd : decide (¬ Ok1 c) = true := decide_eq_true (fun k => by unfold Ok1 at k; omega)
          have HD := Lib.hid hd
          clear hd
          have v4_t : (c.v == 4) = true := beq_iff_eq.2 v4
          have v4_u : (c.v != 4) = false := bne_eq_false_iff_eq.2 v4
          have b1_t : decide (c.base < floorOf c.v) = false := decide_eq_false b1
          have b2_t : decide (c.most < c.base) = true := decide_eq_true b2
          clear b2
          (try clear v4); (try clear v6); (try clear b1); (try clear b2); (try clear b3); (try clear b4); (try clear b5); (try clear b6); (try clear b7)
          go_quiet ((go_at_call 27; exact Calls.quiet_of_same ((rfloor_calls _ _).mono fun _ _ h => ⟨h.1, h.2.symm⟩)))
          go_wp2
          go_meet
          case rel => exact ⟨by rw [HD.out], Lib.hid ⟨(HB.out.1.drewN _), bdn HB.out.2 _⟩⟩
        · by_cases b3 : 65535 < c.most
          · have hd : decide (¬ Ok1 c) = true := decide_eq_true (fun k => by unfold Ok1 at k; omega)
            have HD := Lib.hid hd
            clear hd
            have v4_t : (c.v == 4) = true := beq_iff_eq.2 v4
            have v4_u : (c.v != 4) = false := bne_eq_false_iff_eq.2 v4
            have b1_t : decide (c.base < floorOf c.v) = false := decide_eq_false b1
            have b2_t : decide (c.most < c.base) = false := decide_eq_false b2
            have b3_t : decide (65535 < c.most) = true := decide_eq_true b3
            clear b3
            (try clear v4); (try clear v6); (try clear b1); (try clear b2); (try clear b3); (try clear b4); (try clear b5); (try clear b6); (try clear b7)
            go_quiet ((go_at_call 27; exact Calls.quiet_of_same ((rfloor_calls _ _).mono fun _ _ h => ⟨h.1, h.2.symm⟩)))
            go_wp2
            go_meet
            case rel => exact ⟨by rw [HD.out], Lib.hid ⟨(HB.out.1.drewN _), bdn HB.out.2 _⟩⟩
          · by_cases b4 : c.tries < 1
            · have hd : decide (¬ Ok1 c) = true := decide_eq_true (fun k => by unfold Ok1 at k; omega)
              have HD := Lib.hid hd
              clear hd
              have v4_t : (c.v == 4) = true := beq_iff_eq.2 v4
              have v4_u : (c.v != 4) = false := bne_eq_false_iff_eq.2 v4
              have b1_t : decide (c.base < floorOf c.v) = false := decide_eq_false b1
              have b2_t : decide (c.most < c.base) = false := decide_eq_false b2
              have b3_t : decide (65535 < c.most) = false := decide_eq_false b3
              have b4_t : decide (c.tries < 1) = true := decide_eq_true b4
              clear b4
              (try clear v4); (try clear v6); (try clear b1); (try clear b2); (try clear b3); (try clear b4); (try clear b5); (try clear b6); (try clear b7)
              go_quiet ((go_at_call 27; exact Calls.quiet_of_same ((rfloor_calls _ _).mono fun _ _ h => ⟨h.1, h.2.symm⟩)))
              go_wp2
              go_meet
              case rel => exact ⟨by rw [HD.out], Lib.hid ⟨(HB.out.1.drewN _), bdn HB.out.2 _⟩⟩
            · by_cases b5 : 16 < c.tries
              · have hd : decide (¬ Ok1 c) = true := decide_eq_true (fun k => by unfold Ok1 at k; omega)
                have HD := Lib.hid hd
                clear hd
                have v4_t : (c.v == 4) = true := beq_iff_eq.2 v4
                have v4_u : (c.v != 4) = false := bne_eq_false_iff_eq.2 v4
                have b1_t : decide (c.base < floorOf c.v) = false := decide_eq_false b1
                have b2_t : decide (c.most < c.base) = false := decide_eq_false b2
                have b3_t : decide (65535 < c.most) = false := decide_eq_false b3
                have b4_t : decide (c.tries < 1) = false := decide_eq_false b4
                have b5_t : decide (16 < c.tries) = true := decide_eq_true b5
                clear b5
                (try clear v4); (try clear v6); (try clear b1); (try clear b2); (try clear b3); (try clear b4); (try clear b5); (try clear b6); (try clear b7)
                go_quiet ((go_at_call 27; exact Calls.quiet_of_same ((rfloor_calls _ _).mono fun _ _ h => ⟨h.1, h.2.symm⟩)))
                go_wp2
                go_meet
                case rel => exact ⟨by rw [HD.out], Lib.hid ⟨(HB.out.1.drewN _), bdn HB.out.2 _⟩⟩
              · by_cases b6 : c.losses < 1
                · have hd : decide (¬ Ok1 c) = true := decide_eq_true (fun k => by unfold Ok1 at k; omega)
                  have HD := Lib.hid hd
                  clear hd
                  have v4_t : (c.v == 4) = true := beq_iff_eq.2 v4
                  have v4_u : (c.v != 4) = false := bne_eq_false_iff_eq.2 v4
                  have b1_t : decide (c.base < floorOf c.v) = false := decide_eq_false b1
                  have b2_t : decide (c.most < c.base) = false := decide_eq_false b2
                  have b3_t : decide (65535 < c.most) = false := decide_eq_false b3
                  have b4_t : decide (c.tries < 1) = false := decide_eq_false b4
                  have b5_t : decide (16 < c.tries) = false := decide_eq_false b5
                  have b6_t : decide (c.losses < 1) = true := decide_eq_true b6
                  clear b6
                  (try clear v4); (try clear v6); (try clear b1); (try clear b2); (try clear b3); (try clear b4); (try clear b5); (try clear b6); (try clear b7)
                  go_quiet ((go_at_call 27; exact Calls.quiet_of_same ((rfloor_calls _ _).mono fun _ _ h => ⟨h.1, h.2.symm⟩)))
                  go_wp2
                  go_meet
                  case rel => exact ⟨by rw [HD.out], Lib.hid ⟨(HB.out.1.drewN _), bdn HB.out.2 _⟩⟩
                · by_cases b7 : 64 < c.losses
                  · have hd : decide (¬ Ok1 c) = true := decide_eq_true (fun k => by unfold Ok1 at k; omega)
                    have HD := Lib.hid hd
                    clear hd
                    have v4_t : (c.v == 4) = true := beq_iff_eq.2 v4
                    have v4_u : (c.v != 4) = false := bne_eq_false_iff_eq.2 v4
                    have b1_t : decide (c.base < floorOf c.v) = false := decide_eq_false b1
                    have b2_t : decide (c.most < c.base) = false := decide_eq_false b2
                    have b3_t : decide (65535 < c.most) = false := decide_eq_false b3
                    have b4_t : decide (c.tries < 1) = false := decide_eq_false b4
                    have b5_t : decide (16 < c.tries) = false := decide_eq_false b5
                    have b6_t : decide (c.losses < 1) = false := decide_eq_false b6
                    have b7_t : decide (64 < c.losses) = true := decide_eq_true b7
                    clear b7
                    (try clear v4); (try clear v6); (try clear b1); (try clear b2); (try clear b3); (try clear b4); (try clear b5); (try clear b6); (try clear b7)
                    go_quiet ((go_at_call 27; exact Calls.quiet_of_same ((rfloor_calls _ _).mono fun _ _ h => ⟨h.1, h.2.symm⟩)))
                    go_wp2
                    go_meet
                    case rel => exact ⟨by rw [HD.out], Lib.hid ⟨(HB.out.1.drewN _), bdn HB.out.2 _⟩⟩
                  · have hd : decide (¬ Ok1 c) = false := decide_eq_false (fun k => k ⟨.inl v4, by omega, by omega, by omega, by omega, by omega, by omega, by omega⟩)
                    have HD := Lib.hid hd
                    clear hd
                    have v4_t : (c.v == 4) = true := beq_iff_eq.2 v4
                    have v4_u : (c.v != 4) = false := bne_eq_false_iff_eq.2 v4
                    have b1_t : decide (c.base < floorOf c.v) = false := decide_eq_false b1
                    have b2_t : decide (c.most < c.base) = false := decide_eq_false b2
                    have b3_t : decide (65535 < c.most) = false := decide_eq_false b3
                    have b4_t : decide (c.tries < 1) = false := decide_eq_false b4
                    have b5_t : decide (16 < c.tries) = false := decide_eq_false b5
                    have b6_t : decide (c.losses < 1) = false := decide_eq_false b6
                    have b7_t : decide (64 < c.losses) = false := decide_eq_false b7
                    (try clear v4); (try clear v6); (try clear b1); (try clear b2); (try clear b3); (try clear b4); (try clear b5); (try clear b6); (try clear b7)
                    go_quiet ((go_at_call 27; exact Calls.quiet_of_same ((rfloor_calls _ _).mono fun _ _ h => ⟨h.1, h.2.symm⟩)))
                    go_wp2
                    go_meet
                    case rel => exact ⟨by rw [HD.out], Lib.hid ⟨(HB.out.1.drewN _), bdn HB.out.2 _⟩⟩
    · by_cases v6 : c.v = 6
      · by_cases b1 : c.base < floorOf c.v
        · have hd : decide (¬ Ok1 c) = true := decide_eq_true (fun k => by unfold Ok1 at k; omega)
          have HD := Lib.hid hd
          clear hd
          have v4_t : (c.v == 4) = false := beq_eq_false_iff_ne.2 v4
          have v4_u : (c.v != 4) = true := bne_iff_ne.2 v4
          have v6_t : (c.v == 6) = true := beq_iff_eq.2 v6
          have v6_u : (c.v != 6) = false := bne_eq_false_iff_eq.2 v6
          have b1_t : decide (c.base < floorOf c.v) = true := decide_eq_true b1
          clear b1
          (try clear v4); (try clear v6); (try clear b1); (try clear b2); (try clear b3); (try clear b4); (try clear b5); (try clear b6); (try clear b7)
          go_quiet ((go_at_call 27; exact Calls.quiet_of_same ((rfloor_calls _ _).mono fun _ _ h => ⟨h.1, h.2.symm⟩)))
          go_wp2
          go_meet
          case rel => exact ⟨by rw [HD.out], Lib.hid ⟨(HB.out.1.drewN _), bdn HB.out.2 _⟩⟩
        · by_cases b2 : c.most < c.base
          · have hd : decide (¬ Ok1 c) = true := decide_eq_true (fun k => by unfold Ok1 at k; omega)
            have HD := Lib.hid hd
            clear hd
            have v4_t : (c.v == 4) = false := beq_eq_false_iff_ne.2 v4
            have v4_u : (c.v != 4) = true := bne_iff_ne.2 v4
            have v6_t : (c.v == 6) = true := beq_iff_eq.2 v6
            have v6_u : (c.v != 6) = false := bne_eq_false_iff_eq.2 v6
            have b1_t : decide (c.base < floorOf c.v) = false := decide_eq_false b1
            have b2_t : decide (c.most < c.base) = true := decide_eq_true b2
            clear b2
            (try clear v4); (try clear v6); (try clear b1); (try clear b2); (try clear b3); (try clear b4); (try clear b5); (try clear b6); (try clear b7)
            go_quiet ((go_at_call 27; exact Calls.quiet_of_same ((rfloor_calls _ _).mono fun _ _ h => ⟨h.1, h.2.symm⟩)))
            go_wp2
            go_meet
            case rel => exact ⟨by rw [HD.out], Lib.hid ⟨(HB.out.1.drewN _), bdn HB.out.2 _⟩⟩
          · by_cases b3 : 65535 < c.most
            · have hd : decide (¬ Ok1 c) = true := decide_eq_true (fun k => by unfold Ok1 at k; omega)
              have HD := Lib.hid hd
              clear hd
              have v4_t : (c.v == 4) = false := beq_eq_false_iff_ne.2 v4
              have v4_u : (c.v != 4) = true := bne_iff_ne.2 v4
              have v6_t : (c.v == 6) = true := beq_iff_eq.2 v6
              have v6_u : (c.v != 6) = false := bne_eq_false_iff_eq.2 v6
              have b1_t : decide (c.base < floorOf c.v) = false := decide_eq_false b1
              have b2_t : decide (c.most < c.base) = false := decide_eq_false b2
              have b3_t : decide (65535 < c.most) = true := decide_eq_true b3
              clear b3
              (try clear v4); (try clear v6); (try clear b1); (try clear b2); (try clear b3); (try clear b4); (try clear b5); (try clear b6); (try clear b7)
              go_quiet ((go_at_call 27; exact Calls.quiet_of_same ((rfloor_calls _ _).mono fun _ _ h => ⟨h.1, h.2.symm⟩)))
              go_wp2
              go_meet
              case rel => exact ⟨by rw [HD.out], Lib.hid ⟨(HB.out.1.drewN _), bdn HB.out.2 _⟩⟩
            · by_cases b4 : c.tries < 1
              · have hd : decide (¬ Ok1 c) = true := decide_eq_true (fun k => by unfold Ok1 at k; omega)
                have HD := Lib.hid hd
                clear hd
                have v4_t : (c.v == 4) = false := beq_eq_false_iff_ne.2 v4
                have v4_u : (c.v != 4) = true := bne_iff_ne.2 v4
                have v6_t : (c.v == 6) = true := beq_iff_eq.2 v6
                have v6_u : (c.v != 6) = false := bne_eq_false_iff_eq.2 v6
                have b1_t : decide (c.base < floorOf c.v) = false := decide_eq_false b1
                have b2_t : decide (c.most < c.base) = false := decide_eq_false b2
                have b3_t : decide (65535 < c.most) = false := decide_eq_false b3
                have b4_t : decide (c.tries < 1) = true := decide_eq_true b4
                clear b4
                (try clear v4); (try clear v6); (try clear b1); (try clear b2); (try clear b3); (try clear b4); (try clear b5); (try clear b6); (try clear b7)
                go_quiet ((go_at_call 27; exact Calls.quiet_of_same ((rfloor_calls _ _).mono fun _ _ h => ⟨h.1, h.2.symm⟩)))
                go_wp2
                go_meet
                case rel => exact ⟨by rw [HD.out], Lib.hid ⟨(HB.out.1.drewN _), bdn HB.out.2 _⟩⟩
              · by_cases b5 : 16 < c.tries
                · have hd : decide (¬ Ok1 c) = true := decide_eq_true (fun k => by unfold Ok1 at k; omega)
                  have HD := Lib.hid hd
                  clear hd
                  have v4_t : (c.v == 4) = false := beq_eq_false_iff_ne.2 v4
                  have v4_u : (c.v != 4) = true := bne_iff_ne.2 v4
                  have v6_t : (c.v == 6) = true := beq_iff_eq.2 v6
                  have v6_u : (c.v != 6) = false := bne_eq_false_iff_eq.2 v6
                  have b1_t : decide (c.base < floorOf c.v) = false := decide_eq_false b1
                  have b2_t : decide (c.most < c.base) = false := decide_eq_false b2
                  have b3_t : decide (65535 < c.most) = false := decide_eq_false b3
                  have b4_t : decide (c.tries < 1) = false := decide_eq_false b4
                  have b5_t : decide (16 < c.tries) = true := decide_eq_true b5
                  clear b5
                  (try clear v4); (try clear v6); (try clear b1); (try clear b2); (try clear b3); (try clear b4); (try clear b5); (try clear b6); (try clear b7)
                  go_quiet ((go_at_call 27; exact Calls.quiet_of_same ((rfloor_calls _ _).mono fun _ _ h => ⟨h.1, h.2.symm⟩)))
                  go_wp2
                  go_meet
                  case rel => exact ⟨by rw [HD.out], Lib.hid ⟨(HB.out.1.drewN _), bdn HB.out.2 _⟩⟩
                · by_cases b6 : c.losses < 1
                  · have hd : decide (¬ Ok1 c) = true := decide_eq_true (fun k => by unfold Ok1 at k; omega)
                    have HD := Lib.hid hd
                    clear hd
                    have v4_t : (c.v == 4) = false := beq_eq_false_iff_ne.2 v4
                    have v4_u : (c.v != 4) = true := bne_iff_ne.2 v4
                    have v6_t : (c.v == 6) = true := beq_iff_eq.2 v6
                    have v6_u : (c.v != 6) = false := bne_eq_false_iff_eq.2 v6
                    have b1_t : decide (c.base < floorOf c.v) = false := decide_eq_false b1
                    have b2_t : decide (c.most < c.base) = false := decide_eq_false b2
                    have b3_t : decide (65535 < c.most) = false := decide_eq_false b3
                    have b4_t : decide (c.tries < 1) = false := decide_eq_false b4
                    have b5_t : decide (16 < c.tries) = false := decide_eq_false b5
                    have b6_t : decide (c.losses < 1) = true := decide_eq_true b6
                    clear b6
                    (try clear v4); (try clear v6); (try clear b1); (try clear b2); (try clear b3); (try clear b4); (try clear b5); (try clear b6); (try clear b7)
                    go_quiet ((go_at_call 27; exact Calls.quiet_of_same ((rfloor_calls _ _).mono fun _ _ h => ⟨h.1, h.2.symm⟩)))
                    go_wp2
                    go_meet
                    case rel => exact ⟨by rw [HD.out], Lib.hid ⟨(HB.out.1.drewN _), bdn HB.out.2 _⟩⟩
                  · by_cases b7 : 64 < c.losses
                    · have hd : decide (¬ Ok1 c) = true := decide_eq_true (fun k => by unfold Ok1 at k; omega)
                      have HD := Lib.hid hd
                      clear hd
                      have v4_t : (c.v == 4) = false := beq_eq_false_iff_ne.2 v4
                      have v4_u : (c.v != 4) = true := bne_iff_ne.2 v4
                      have v6_t : (c.v == 6) = true := beq_iff_eq.2 v6
                      have v6_u : (c.v != 6) = false := bne_eq_false_iff_eq.2 v6
                      have b1_t : decide (c.base < floorOf c.v) = false := decide_eq_false b1
                      have b2_t : decide (c.most < c.base) = false := decide_eq_false b2
                      have b3_t : decide (65535 < c.most) = false := decide_eq_false b3
                      have b4_t : decide (c.tries < 1) = false := decide_eq_false b4
                      have b5_t : decide (16 < c.tries) = false := decide_eq_false b5
                      have b6_t : decide (c.losses < 1) = false := decide_eq_false b6
                      have b7_t : decide (64 < c.losses) = true := decide_eq_true b7
                      clear b7
                      (try clear v4); (try clear v6); (try clear b1); (try clear b2); (try clear b3); (try clear b4); (try clear b5); (try clear b6); (try clear b7)
                      go_quiet ((go_at_call 27; exact Calls.quiet_of_same ((rfloor_calls _ _).mono fun _ _ h => ⟨h.1, h.2.symm⟩)))
                      go_wp2
                      go_meet
                      case rel => exact ⟨by rw [HD.out], Lib.hid ⟨(HB.out.1.drewN _), bdn HB.out.2 _⟩⟩
                    · have hd : decide (¬ Ok1 c) = false := decide_eq_false (fun k => k ⟨.inr v6, by omega, by omega, by omega, by omega, by omega, by omega, by omega⟩)
                      have HD := Lib.hid hd
                      clear hd
                      have v4_t : (c.v == 4) = false := beq_eq_false_iff_ne.2 v4
                      have v4_u : (c.v != 4) = true := bne_iff_ne.2 v4
                      have v6_t : (c.v == 6) = true := beq_iff_eq.2 v6
                      have v6_u : (c.v != 6) = false := bne_eq_false_iff_eq.2 v6
                      have b1_t : decide (c.base < floorOf c.v) = false := decide_eq_false b1
                      have b2_t : decide (c.most < c.base) = false := decide_eq_false b2
                      have b3_t : decide (65535 < c.most) = false := decide_eq_false b3
                      have b4_t : decide (c.tries < 1) = false := decide_eq_false b4
                      have b5_t : decide (16 < c.tries) = false := decide_eq_false b5
                      have b6_t : decide (c.losses < 1) = false := decide_eq_false b6
                      have b7_t : decide (64 < c.losses) = false := decide_eq_false b7
                      (try clear v4); (try clear v6); (try clear b1); (try clear b2); (try clear b3); (try clear b4); (try clear b5); (try clear b6); (try clear b7)
                      go_quiet ((go_at_call 27; exact Calls.quiet_of_same ((rfloor_calls _ _).mono fun _ _ h => ⟨h.1, h.2.symm⟩)))
                      go_wp2
                      go_meet
                      case rel => exact ⟨by rw [HD.out], Lib.hid ⟨(HB.out.1.drewN _), bdn HB.out.2 _⟩⟩
      · have hd : decide (¬ Ok1 c) = true := decide_eq_true (fun k => k.1.elim v4 v6)
        have HD := Lib.hid hd
        clear hd
        have v4_t : (c.v == 4) = false := beq_eq_false_iff_ne.2 v4
        have v4_u : (c.v != 4) = true := bne_iff_ne.2 v4
        have v6_t : (c.v == 6) = false := beq_eq_false_iff_ne.2 v6
        have v6_u : (c.v != 6) = true := bne_iff_ne.2 v6
        (try clear v4); (try clear v6); (try clear b1); (try clear b2); (try clear b3); (try clear b4); (try clear b5); (try clear b6); (try clear b7)
        go_quiet ((go_at_call 27; exact Calls.quiet_of_same ((rfloor_calls _ _).mono fun _ _ h => ⟨h.1, h.2.symm⟩)))
        go_wp2
        go_meet
        case rel => exact ⟨by rw [HD.out], Lib.hid ⟨(HB.out.1.drewN _), bdn HB.out.2 _⟩⟩
  case rest =>
    clear HB x1
    obtain ⟨rfl, HB⟩ := hcut
    by_cases h1 : Ok1 c
    · have h1d : decide (¬ Ok1 c) = false := decide_eq_false (fun k => k h1)
      rw [h1d]
      replace h1 := Lib.hid h1
      clear h1d
      have x1 : ∀ i, wc.cell? ⟨w.heap.size, i, none⟩ = (#[.int .i64 c.v, .int .i64 c.base, .int .i64 c.most, .int .i64 c.tries, .int .i64 c.losses, .int .i64 c.wait, .int .i64 c.raise] : Array Value)[i]? := fun i => HB.out.1.cell i
      by_cases b1 : c.wait < 1
      · have hno : ¬ c.Ok := fun k => by have := c.ok_iff.1 k; unfold Ok1 Ok2 at this; omega
        have HN := Lib.hid hno
        clear hno
        have b1_t : decide (c.wait < 1) = true := decide_eq_true b1
        clear b1
        (try clear b1); (try clear b2); (try clear b3); (try clear b4)
        go_wp2
        try go_ret2
        rw [HP.out]
        exact ⟨fun k => absurd k HN.out, fun _ => ⟨rfl, HB.out.2⟩⟩
      · by_cases b2 : 1099511627776 < c.wait
        · have hno : ¬ c.Ok := fun k => by have := c.ok_iff.1 k; unfold Ok1 Ok2 at this; omega
          have HN := Lib.hid hno
          clear hno
          have b1_t : decide (c.wait < 1) = false := decide_eq_false b1
          have b2_t : decide (1099511627776 < c.wait) = true := decide_eq_true b2
          clear b2
          (try clear b1); (try clear b2); (try clear b3); (try clear b4)
          go_wp2
          try go_ret2
          rw [HP.out]
          exact ⟨fun k => absurd k HN.out, fun _ => ⟨rfl, HB.out.2⟩⟩
        · by_cases b3 : c.raise < 1
          · have hno : ¬ c.Ok := fun k => by have := c.ok_iff.1 k; unfold Ok1 Ok2 at this; omega
            have HN := Lib.hid hno
            clear hno
            have b1_t : decide (c.wait < 1) = false := decide_eq_false b1
            have b2_t : decide (1099511627776 < c.wait) = false := decide_eq_false b2
            have b3_t : decide (c.raise < 1) = true := decide_eq_true b3
            clear b3
            (try clear b1); (try clear b2); (try clear b3); (try clear b4)
            go_wp2
            try go_ret2
            rw [HP.out]
            exact ⟨fun k => absurd k HN.out, fun _ => ⟨rfl, HB.out.2⟩⟩
          · by_cases b4 : 1099511627776 < c.raise
            · have hno : ¬ c.Ok := fun k => by have := c.ok_iff.1 k; unfold Ok1 Ok2 at this; omega
              have HN := Lib.hid hno
              clear hno
              have b1_t : decide (c.wait < 1) = false := decide_eq_false b1
              have b2_t : decide (1099511627776 < c.wait) = false := decide_eq_false b2
              have b3_t : decide (c.raise < 1) = false := decide_eq_false b3
              have b4_t : decide (1099511627776 < c.raise) = true := decide_eq_true b4
              clear b4
              (try clear b1); (try clear b2); (try clear b3); (try clear b4)
              go_wp2
              try go_ret2
              rw [HP.out]
              exact ⟨fun k => absurd k HN.out, fun _ => ⟨rfl, HB.out.2⟩⟩
            · have hyes : c.Ok := c.ok_iff.2 ⟨h1.out, by omega, by omega, by omega, by omega⟩
              have HY := Lib.hid hyes
              clear hyes
              have b1_t : decide (c.wait < 1) = false := decide_eq_false b1
              have b2_t : decide (1099511627776 < c.wait) = false := decide_eq_false b2
              have b3_t : decide (c.raise < 1) = false := decide_eq_false b3
              have b4_t : decide (1099511627776 < c.raise) = false := decide_eq_false b4
              (try clear b1); (try clear b2); (try clear b3); (try clear b4)
              go_wp2
              try go_ret2
              rw [HP.out]
              exact ⟨fun _ => ⟨_, rfl, HB.out.2.size, by exact Blk.new _ 70 _, HB.out.2.alloc HB.out.2.size _⟩, fun k => absurd HY.out k⟩
    · have h1d : decide (¬ Ok1 c) = true := decide_eq_true h1
      rw [h1d]
      have hno : ¬ c.Ok := fun k => h1 (c.ok_iff.1 k).1
      have HN := Lib.hid hno
      clear h1d hno h1
      go_wp2
      try go_ret2
      rw [HP.out]
      exact ⟨fun k => absurd k HN.out, fun _ => ⟨rfl, HB.out.2⟩⟩
end Go.Proofs.Ytmanojnhjhpokaa.PB
