/- Contracts of the Go functions that a statement of this seat reaches: a Lean function for each, and the proof that the Go code answers what it answers; written by a program of this session. Conditions: none beyond those that each theorem states. -/
import Derived.Test.YtoijfhcmjolecaaProg
import Derived.Below
import Derived.Deep.Draws
import Derived.Deep.AppendLies
import Derived.Maps.AppendAt
import Derived.OwnWalk
import Derived.Laws.BytesArg
import Derived.Laws.MakeOwn
import Derived.Laws.OwnMore
import Derived.Deep.OwnRows
import Derived.Tactics
import Derived.Lib.ConvBytes
import Derived.Laws.Slices
import Derived.WalkKit
import Derived.KernelRfl
import Derived.RowKit3
import Derived.Deep.LoopGhost
import Derived.Deep.QuietTactic
import Derived.BigQuiet
import Derived.WideLaws
import Derived.Deep.DeepCutAuto
import Derived.Deep.CutBlock
import Derived.Deep.RegionHeld3
import Derived.Laws.Rows
import Derived.Lib.AppendStr
import Derived.ArgAppend
import Derived.Laws.IdiomCopy
import Derived.OrdersHeld
import Derived.Laws.BitsLemmas
import Derived.RowKit
import Derived.Test.YtoijfhcmjolecaaWWords
import Derived.Test.YtoijfhcmjolecaaWLast
import Derived.Test.YtoijfhcmjolecaaWTab
import Derived.Test.YtoijfhcmjolecaaWFour
import Derived.Test.YtoijfhcmjolecaaWQPut
import Derived.Test.YtoijfhcmjolecaaWApart
import Derived.Test.YtoijfhcmjolecaaWArr
import Derived.Test.YtoijfhcmjolecaaWZeros
import Derived.Test.YtoijfhcmjolecaaWFoot
import Derived.Test.YtoijfhcmjolecaaWKept
import Derived.Test.YtoijfhcmjolecaaWShare
import Derived.Test.YtoijfhcmjolecaaWN
import Derived.Test.YtoijfhcmjolecaaWFootNe
import Derived.Test.YtoijfhcmjolecaaWAt
import Derived.Test.YtoijfhcmjolecaaWEqStruct
import Derived.Test.YtoijfhcmjolecaaWRepsOne
import Derived.Test.YtoijfhcmjolecaaWInv
import Derived.Test.YtoijfhcmjolecaaWInvWords
import Derived.Test.YtoijfhcmjolecaaWGuard
import Derived.Test.YtoijfhcmjolecaaWNEv
import Derived.Test.YtoijfhcmjolecaaWMore
namespace Go.Proofs.Ytoijfhcmjolecaa.PAll
open Go.RowKit Go.Proofs.YtoijfhcmjolecaaW.PrintWords Go.Proofs.YtoijfhcmjolecaaW.PrintLast Go.Proofs.YtoijfhcmjolecaaW.PrintMore
attribute [local go_sem] max2_int min2_int max_two min_two max_three min_three max_four min_four   -- for this text's walks alone
set_option linter.unusedVariables false
set_option linter.unusedSimpArgs false



def errW : Option Int → Value
  | none => .nilIface
  | some c => .iface 0 (.int .i64 c)
theorem errW_none : errW none = .nilIface := rfl
theorem errW_some (c : Int) : errW (some c) = .iface 0 (.int .i64 c) := rfl

theorem info5 : (Try.prog.info? 5).map (fun i => (i.zero, i.size, i.bytes)) = some (some (.int .u8 0), 1, 1) := by kernel_rfl
-- the values' own types
theorem sg_u8 : IntKind.u8.signed = false := rfl
theorem sg_u16 : IntKind.u16.signed = false := rfl
theorem sg_u32 : IntKind.u32.signed = false := rfl
theorem sg_u64 : IntKind.u64.signed = false := rfl

theorem rA : ∀ {α : Type} {d : Kd α} {e : Nat} {w : World} {base : Nat} {ok : Nat → Prop} {v : Value} {xs : List α}, Kd.R d e w base ok v xs → ∀ (o : Obj), Kd.R d e (World.alloc w o) base ok v xs := @Kd.R_alloc
theorem rN : ∀ {α : Type} {d : Kd α} {e : Nat} {w : World} {base : Nat} {ok : Nat → Prop} {v : Value} {xs : List α}, Kd.R d e w base ok v xs → ∀ (m : Nat), Kd.R d e (World.drewN w m) base ok v xs := @Kd.R_drewN
theorem rD : ∀ {α : Type} {d : Kd α} {e : Nat} {w : World} {base : Nat} {ok : Nat → Prop} {v : Value} {xs : List α}, Kd.R d e w base ok v xs → Kd.R d e (World.drew w) base ok v xs := @Kd.R_drew
theorem bA : ∀ {w W : World}, Below (Array.size (World.heap w)) w W → ∀ (o : Obj), Below (Array.size (World.heap w)) w (World.alloc W o) := @below_alloc
theorem bN : ∀ {B : Nat} {w W : World}, Below B w W → ∀ (n : Nat), Below B w (World.drewN W n) := @pw_below_drewN
theorem bD : ∀ {base : Nat} {w W : World}, Below base w W → Below base w (World.drew W) := @below_drew1
theorem kA : ∀ {α : Type} {d : Kd α} {w : World} {xs : List α} {A : Option Addr} {n : Nat}, Kd.C d w A n xs → ∀ (o : Obj), Kd.C d (World.alloc w o) A n xs := @Kd.C_alloc
theorem kN : ∀ {α : Type} {d : Kd α} {w : World} {xs : List α} {A : Option Addr} {n : Nat}, Kd.C d w A n xs → ∀ (m : Nat), Kd.C d (World.drewN w m) A n xs := @Kd.C_drewN
theorem kD : ∀ {α : Type} {d : Kd α} {w : World} {xs : List α} {A : Option Addr} {n : Nat}, Kd.C d w A n xs → Kd.C d (World.drew w) A n xs := @Kd.C_drew
theorem rB : ∀ {α : Type} {d : Kd α} {e : Nat} {w w1 : World} {base : Nat} {ok : Nat → Prop} {v : Value} {xs : List α}, Kd.R d e w base ok v xs → Below (Array.size (World.heap w)) w w1 → Kd.R d e w1 base ok v xs := @Kd.R_below
theorem rR : ∀ {α : Type} {d : Kd α} {e : Nat} {w : World} {base : Nat} {ok : Nat → Prop} {xs : List α} {A : Option Addr} {n c : Nat}, Kd.R d e w base ok (Value.slice A n c) xs → n = List.length xs ∧ n ≤ c ∧ Kd.C d w A (List.length xs) xs := @Kd.R_reads'
theorem rM : ∀ {α : Type} {d : Kd α} {e : Nat} {w : World} {base : Nat} {ok ok' : Nat → Prop} {v : Value} {xs : List α}, Kd.R d e w base ok v xs → (∀ (k : Nat), ok k → ok' k) → Kd.R d e w base ok' v xs := @Kd.R_mono
theorem bS : ∀ {w W w2 : World}, Below (Array.size (World.heap w)) w W → Below (Array.size (World.heap W)) W w2 → Below (Array.size (World.heap w)) w w2 := @below_step
theorem bZ : ∀ {w W : World}, Below (Array.size (World.heap w)) w W → Array.size (World.heap w) ≤ Array.size (World.heap W) := @below_size
theorem vA : ∀ {α : Type} {d : Kd α} {e base : Nat} {ok : Nat → Prop} {w : World} {v : Value} {xs : List α}, Kd.V d e w base ok v xs → ∀ (o : Obj), Kd.V d e (World.alloc w o) base ok v xs := @Kd.V_alloc
theorem vN : ∀ {α : Type} {d : Kd α} {e base : Nat} {ok : Nat → Prop} {w : World} {v : Value} {xs : List α}, Kd.V d e w base ok v xs → ∀ (m : Nat), Kd.V d e (World.drewN w m) base ok v xs := @Kd.V_drewN
theorem vD : ∀ {α : Type} {d : Kd α} {e base : Nat} {ok : Nat → Prop} {w : World} {v : Value} {xs : List α}, Kd.V d e w base ok v xs → Kd.V d e (World.drew w) base ok v xs := @Kd.V_drew
theorem dT {p : Prop} [h : Decidable p] (e : decide p = true) : p := of_decide_eq_true e
theorem mkA {p : Prop} (h : p) : Aside0 p := Aside0.mk h

end Go.Proofs.Ytoijfhcmjolecaa.PAll
