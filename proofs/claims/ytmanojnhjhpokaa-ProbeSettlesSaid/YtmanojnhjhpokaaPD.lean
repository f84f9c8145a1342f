/- probe.Path as a record, and its methods as Lean functions: plain Lean, no program. -/
namespace Go.Proofs.Ytmanojnhjhpokaa.PB
structure Pt where
  v : Int
  base : Int
  most : Int
  mtries : Int
  mlosses : Int
  wait : Int
  raise : Int
  state : Int
  low : Int
  high : Int
  hsize : Int
  hheard : Bool
  tries : Int
  losses : Int
  unum : Int
  usize : Int
  uat : Int
  uheard : Bool
  number : Int
  since : Int
  now : Int
def floorOf (v : Int) : Int := if v = 6 then 1280 else 68
namespace Pt
def size (s : Pt) : Int := if s.state = 1 then s.base else if s.state = 4 then floorOf s.v else s.low
def clock (s : Pt) (n : Int) : Bool × Pt := if n < s.now then (false, s) else if 1099511627776 < n then (false, s) else (true, { s with now := n })
def enters (s : Pt) (n : Int) : Pt := { s with state := n, since := s.now }
def search (s : Pt) : Pt := { s with state := 2, high := s.most + 1, hsize := 0, hheard := false }
def settled (s : Pt) : Pt := if s.low = s.most then s.enters 3 else if s.high = s.low + 1 then s.enters 3 else s
def under0 (s : Pt) (t : Int) : Pt := { s with unum := 0, usize := 0, uat := 0, uheard := false, tries := t }
def drop (s : Pt) : Pt :=
  if s.tries + 1 < s.mtries then s.under0 (s.tries + 1)
  else if s.state = 1 then (s.under0 0).enters 4
  else if s.usize = s.low + 1 then ({ s.under0 0 with high := s.usize, hsize := 0, hheard := false } : Pt).enters 3
  else { s.under0 0 with high := s.usize, hsize := 0, hheard := false }
def tried (s : Pt) : Int × Bool :=
  if s.state = 1 then (s.base, false) else if 0 < s.hsize then (s.hsize, s.hheard) else if s.high = s.most + 1 then (s.most, false) else (s.low + (s.high - s.low).tdiv 2, false)
def counts (s : Pt) (n : Int) : Bool := if s.state = 2 then (if s.base < n then decide (n ≤ s.low) else false) else if s.state = 3 then (if s.base < n then decide (n ≤ s.low) else false) else false
def toBase (s : Pt) : Pt := { s with state := 1 }
def num1 (s : Pt) : Pt := { s with number := s.number + 1 }
def raised (s : Pt) (n : Int) : Pt :=
  if s.raise ≤ n - s.since then (if s.state = 3 then (if s.low < s.most then s.search else s) else if s.state = 4 then s.toBase else s) else s
def told (s : Pt) (n : Int) : (Int × Int) × Pt :=
  if s.state = 1 then ((s.tried.1, s.number + 1), { s with number := s.number + 1, unum := s.number + 1, usize := s.tried.1, uat := n, uheard := s.tried.2 })
  else if s.state = 2 then ((s.tried.1, s.number + 1), { s with number := s.number + 1, unum := s.number + 1, usize := s.tried.1, uat := n, uheard := s.tried.2 })
  else ((0, 0), s)
def next (s : Pt) (n : Int) : (Int × Int) × Pt :=
  if 0 < s.unum then (if n - s.uat < s.wait then ((0, 0), s) else (s.drop.raised n).told n) else (s.raised n).told n
def acked1 (s : Pt) : Pt :=
  if s.state = 1 then ({ s.under0 0 with losses := 0, low := s.base } : Pt).search
  else if s.uheard = true then (if s.usize < s.high - 1 then { s.under0 0 with losses := 0, low := s.usize, hsize := s.usize + 1, hheard := false } else { s.under0 0 with losses := 0, low := s.usize, hsize := 0, hheard := false })
  else { s.under0 0 with losses := 0, low := s.usize, hsize := 0, hheard := false }
def acked (s : Pt) (p : Int) : Bool × Pt := if s.unum = 0 then (false, s) else if p = s.unum then (true, s.acked1.settled) else (false, s)
def tooBig (s : Pt) (p mtu : Int) : Bool × Pt :=
  if s.unum = 0 then (false, s) else if p = s.unum then
    (if mtu < floorOf s.v then (false, s) else if s.usize ≤ mtu then (false, s) else
      if s.state = 2 then (if mtu < s.low then (false, s) else if s.low < mtu then (true, { s.under0 0 with hsize := mtu, hheard := true }) else (true, s.drop)) else (true, s.drop))
  else (false, s)
def got (s : Pt) (n : Int) : Pt := if s.counts n = true then { s with losses := 0 } else s
def lost (s : Pt) (n : Int) : Bool × Pt :=
  if s.counts n = true then (if s.losses + 1 < s.mlosses then (false, { s with losses := s.losses + 1 }) else (true, { s.under0 0 with state := 1, hsize := 0, hheard := false, losses := 0 })) else (false, s)
end Pt
end Go.Proofs.Ytmanojnhjhpokaa.PB
