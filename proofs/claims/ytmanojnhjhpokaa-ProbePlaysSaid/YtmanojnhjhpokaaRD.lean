/- The document's path as a record, its methods as Lean functions, and how it goes with the program's path: plain Lean, no program. -/
import Derived.Test.YtmanojnhjhpokaaPK
namespace Go.Proofs.Ytmanojnhjhpokaa.PB
set_option linter.unusedVariables false
set_option linter.unusedSimpArgs false
structure Rt where
  v : Int
  base : Int
  most : Int
  mtries : Int
  mlosses : Int
  wait : Int
  raise : Int
  st : Int
  low : Int
  high : Int
  hint : Int
  told : Bool
  tries : Int
  is : Bool
  number : Int
  usize : Int
  at_ : Int
  losses : Int
  since : Int
  last : Int
  given : Int
namespace Rt
def size (r : Rt) : Int := if r.st = 1 then r.base else if r.st = 4 then floorOf r.v else r.low
def settle (r : Rt) (n : Int) : Rt := if r.low = r.most then { r with st := 3, since := n } else if r.high = r.low + 1 then { r with st := 3, since := n } else r
def lost0 (r : Rt) : Rt := { r with is := false, tries := r.tries + 1 }
def lost1 (r : Rt) : Rt := { r with is := false, tries := 0 }
def lostU (r : Rt) (n : Int) : Rt :=
  if r.tries + 1 < r.mtries then r.lost0
  else if r.st = 1 then { r.lost1 with st := 4, since := n }
  else ({ r.lost1 with high := r.usize, hint := 0 } : Rt).settle n
def trial (r : Rt) : Int := if r.st = 1 then r.base else if 0 < r.hint then r.hint else if r.high = r.most + 1 then r.most else r.low + (r.high - r.low).tdiv 2
def stepA (r : Rt) (n : Int) : Rt := if r.is = true then r.lostU n else r
def stepB (r : Rt) (n : Int) : Rt := if r.st = 3 ∧ r.low < r.most ∧ r.raise ≤ n - r.since then { r with st := 2, high := r.most + 1, hint := 0 } else r
def stepC (r : Rt) (n : Int) : Rt := if r.st = 4 ∧ r.raise ≤ n - r.since then { r with st := 1 } else r
def give (r : Rt) (n : Int) : Rt := { r with given := r.given + 1, is := true, number := r.given + 1, usize := r.trial, at_ := n }
def tell (r : Rt) (n : Int) : (Int × Int) × Rt := if r.st = 3 ∨ r.st = 4 then ((0, 0), r) else ((r.trial, r.given + 1), r.give n)
def next (r : Rt) (n : Int) : (Int × Int) × Rt :=
  if r.is = true ∧ n - r.at_ < r.wait then ((0, 0), r) else (((r.stepA n).stepB n).stepC n).tell n
def counts (r : Rt) (m : Int) : Bool := decide ((r.st = 2 ∨ r.st = 3) ∧ r.base < m ∧ m ≤ r.low)
def ackB (r : Rt) : Rt := { r with is := false, tries := 0, losses := 0, st := 2, low := r.base, high := r.most + 1, hint := 0 }
def ackS (r : Rt) : Rt := { r with is := false, tries := 0, losses := 0, low := r.usize, hint := 0 }
def ackT (r : Rt) : Rt := { r with is := false, tries := 0, losses := 0, low := r.usize, hint := r.usize + 1, told := false }
def acked (r : Rt) (p n : Int) : Bool × Rt :=
  if r.is = true ∧ r.number = p then
    (true, if r.st = 1 then r.ackB.settle n else if r.hint = r.usize ∧ r.told = true ∧ r.usize < r.high - 1 then r.ackT.settle n else r.ackS.settle n)
  else (false, r)
def tooBig (r : Rt) (p m n : Int) : Bool × Rt :=
  if r.is = true ∧ r.number = p ∧ floorOf r.v ≤ m ∧ m < r.usize then
    (if r.st = 1 then (true, r.lostU n) else if m < r.low then (false, r) else if m = r.low then (true, r.lostU n) else (true, { r with is := false, tries := 0, hint := m, told := true }))
  else (false, r)
def got (r : Rt) (m : Int) : Rt := if r.counts m = true then { r with losses := 0 } else r
def lost (r : Rt) (m : Int) : Bool × Rt :=
  if r.counts m = true then (if r.losses + 1 < r.mlosses then (false, { r with losses := r.losses + 1 }) else (true, { r with st := 1, is := false, hint := 0, tries := 0, losses := 0 })) else (false, r)
def late (r : Rt) (n : Int) : Prop := n < r.last ∨ 1099511627776 < n
instance (r : Rt) (n : Int) : Decidable (r.late n) := inferInstanceAs (Decidable (_ ∨ _))
def at' (r : Rt) (n : Int) : Rt := { r with last := n }
def nextA (r : Rt) (n : Int) : (Int × Int × Int) × Rt := if r.late n then ((0, 0, 1), r) else ((((r.at' n).next n).1.1, ((r.at' n).next n).1.2, 0), ((r.at' n).next n).2)
def ackedA (r : Rt) (p n : Int) : (Bool × Int) × Rt := if r.late n then ((false, 1), r) else ((((r.at' n).acked p n).1, 0), ((r.at' n).acked p n).2)
def tooBigA (r : Rt) (p m n : Int) : (Bool × Int) × Rt := if r.late n then ((false, 1), r) else ((((r.at' n).tooBig p m n).1, 0), ((r.at' n).tooBig p m n).2)
def gotA (r : Rt) (m n : Int) : Int × Rt := if r.late n then (1, r) else (0, (r.at' n).got m)
def lostA (r : Rt) (m n : Int) : (Bool × Int) × Rt := if r.late n then ((false, 1), r) else ((((r.at' n).lost m).1, 0), ((r.at' n).lost m).2)
end Rt
/-- The document's path goes with the program's. -/
structure Sim (s : Pt) (r : Rt) : Prop where
  cfg : r.v = s.v ∧ r.base = s.base ∧ r.most = s.most ∧ r.mtries = s.mtries ∧ r.mlosses = s.mlosses ∧ r.wait = s.wait ∧ r.raise = s.raise
  st : r.st = s.state
  low : r.low = s.low
  high : r.high = s.high
  hint : r.hint = s.hsize
  told : 0 < s.hsize → r.told = s.hheard
  tries : r.tries = s.tries
  is : r.is = decide (0 < s.unum)
  under : 0 < s.unum → r.number = s.unum ∧ r.usize = s.usize ∧ r.at_ = s.uat
  heard : 0 < s.unum → s.state = 2 → (s.uheard = true ↔ (r.hint = s.usize ∧ r.told = true))
  losses : r.losses = s.losses
  since : r.since = s.since
  last : r.last = s.now
  given : r.given = s.number
end Go.Proofs.Ytmanojnhjhpokaa.PB
