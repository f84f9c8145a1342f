/-
  No cell of these rows narrows 'for every input' (looked for: loops, veiled, ifaces, maps, wideKeys, modest, calm, conditions, laid).
  DERIVED. THE GIVEN ROWS OF THIS SEAT. 5 by the template 'for every input the law returns true; each argument reads behind the call as it read before'; 0 by the template 'total and deterministic' (their statements: YtmanojnhjhpokaaTotals.lean).
  GIVEN WITH THE SEED: the statements are not yours to turn. If you find one false, say at which input.
  Laid BY PROGRAM, IN A SANDBOX (cutbox-rows.mjs): the forced cells as the released guide's own fill.sh prints them over the translation ae35b886fc6f06b0… (all of the seat's roots in one cut). By AI agents, Wed Nov 11 2026. No macro, syntax, notation, axiom, sorry.
-/
import Derived.Test.YtmanojnhjhpokaaChecked
import GoSem.Claim
import GoSem.ClaimJoined
import GoSem.ClaimMapViews
import Derived.JoinedTies
import Derived.KernelRfl
namespace Go.Proofs.Ytmanojnhjhpokaa
/- THE CELL 'sum', in the pinned program and in every row, IS THE sha256 OF THE DUMP (.gsa) THAT YtmanojnhjhpokaaProg.lean LOADS. Nothing in Lean hashes anything: it is a label: what it is worth is what the hold of that sum in a sandbox is worth. -/
noncomputable def Try.pinned : Pinned := { name := "ytmanojnhjhpokaa", sum := "ae35b886fc6f06b053a8d34e464aa8618786da40610295ee434c726c6775b2ad", checked := Try.checked }
namespace Rows
def none {H : Type} : Left H := { results := [], args := [] }

/-- 'mosaiclaw28.ProbePlays': WHATEVER THE INPUT: true; the input reads as it did. -/
def probePlaysSpec : ChangeSpec := { name := "probePlays", fn := fun _ => fun
  | [d] => { results := [.lit (.bool true)], args := [d] }
  | _ => none }
def probePlaysRow : OpenClaim := { program := "ytmanojnhjhpokaa", sum := "ae35b886fc6f06b053a8d34e464aa8618786da40610295ee434c726c6775b2ad", func := "mosaic/mosaiclaw28.ProbePlays", spec := "probePlays", unfollowed := true, recurses := true, apart := false }
def ProbePlaysSaid : Prop := probePlaysRow.holds Try.pinned (OpenSpec.ofChange probePlaysSpec)

/-- ITS FALSE NEIGHBOUR: 'it returns false'. Refute it at one input. -/
def probePlaysWrong : ChangeSpec := { name := "probePlays", fn := fun _ => fun
  | [d] => { results := [.lit (.bool false)], args := [d] }
  | _ => none }
def ProbePlaysWrongFalsely : Prop := probePlaysRow.holds Try.pinned (OpenSpec.ofChange probePlaysWrong)

/-- 'mosaiclaw28.ProbeSettles': WHATEVER THE INPUT: true; the input reads as it did. -/
def probeSettlesSpec : ChangeSpec := { name := "probeSettles", fn := fun _ => fun
  | [d1, d2, d3, d4] => { results := [.lit (.bool true)], args := [d1, d2, d3, d4] }
  | _ => none }
def probeSettlesRow : OpenClaim := { program := "ytmanojnhjhpokaa", sum := "ae35b886fc6f06b053a8d34e464aa8618786da40610295ee434c726c6775b2ad", func := "mosaic/mosaiclaw28.ProbeSettles", spec := "probeSettles", unfollowed := true, recurses := true, apart := false }
def ProbeSettlesSaid : Prop := probeSettlesRow.holds Try.pinned (OpenSpec.ofChange probeSettlesSpec)

/-- ITS FALSE NEIGHBOUR: 'it returns false'. Refute it at one input. -/
def probeSettlesWrong : ChangeSpec := { name := "probeSettles", fn := fun _ => fun
  | [d1, d2, d3, d4] => { results := [.lit (.bool false)], args := [d1, d2, d3, d4] }
  | _ => none }
def ProbeSettlesWrongFalsely : Prop := probeSettlesRow.holds Try.pinned (OpenSpec.ofChange probeSettlesWrong)

/-- 'mosaiclaw28.ProbeWithin': WHATEVER THE INPUT: true; the input reads as it did. -/
def probeWithinSpec : ChangeSpec := { name := "probeWithin", fn := fun _ => fun
  | [d1, d2] => { results := [.lit (.bool true)], args := [d1, d2] }
  | _ => none }
def probeWithinRow : OpenClaim := { program := "ytmanojnhjhpokaa", sum := "ae35b886fc6f06b053a8d34e464aa8618786da40610295ee434c726c6775b2ad", func := "mosaic/mosaiclaw28.ProbeWithin", spec := "probeWithin", unfollowed := true, recurses := true, apart := false }
def ProbeWithinSaid : Prop := probeWithinRow.holds Try.pinned (OpenSpec.ofChange probeWithinSpec)

/-- ITS FALSE NEIGHBOUR: 'it returns false'. Refute it at one input. -/
def probeWithinWrong : ChangeSpec := { name := "probeWithin", fn := fun _ => fun
  | [d1, d2] => { results := [.lit (.bool false)], args := [d1, d2] }
  | _ => none }
def ProbeWithinWrongFalsely : Prop := probeWithinRow.holds Try.pinned (OpenSpec.ofChange probeWithinWrong)

/-- 'mosaiclaw28.ProbeHole': WHATEVER THE INPUT: true; the input reads as it did. -/
def probeHoleSpec : ChangeSpec := { name := "probeHole", fn := fun _ => fun
  | [d1, d2, d3, d4] => { results := [.lit (.bool true)], args := [d1, d2, d3, d4] }
  | _ => none }
def probeHoleRow : OpenClaim := { program := "ytmanojnhjhpokaa", sum := "ae35b886fc6f06b053a8d34e464aa8618786da40610295ee434c726c6775b2ad", func := "mosaic/mosaiclaw28.ProbeHole", spec := "probeHole", unfollowed := true, recurses := true, apart := false }
def ProbeHoleSaid : Prop := probeHoleRow.holds Try.pinned (OpenSpec.ofChange probeHoleSpec)

/-- ITS FALSE NEIGHBOUR: 'it returns false'. Refute it at one input. -/
def probeHoleWrong : ChangeSpec := { name := "probeHole", fn := fun _ => fun
  | [d1, d2, d3, d4] => { results := [.lit (.bool false)], args := [d1, d2, d3, d4] }
  | _ => none }
def ProbeHoleWrongFalsely : Prop := probeHoleRow.holds Try.pinned (OpenSpec.ofChange probeHoleWrong)

/-- 'mosaiclaw28.ProbeBounds': WHATEVER THE INPUT: true; the input reads as it did. -/
def probeBoundsSpec : ChangeSpec := { name := "probeBounds", fn := fun _ => fun
  | [d] => { results := [.lit (.bool true)], args := [d] }
  | _ => none }
def probeBoundsRow : OpenClaim := { program := "ytmanojnhjhpokaa", sum := "ae35b886fc6f06b053a8d34e464aa8618786da40610295ee434c726c6775b2ad", func := "mosaic/mosaiclaw28.ProbeBounds", spec := "probeBounds", unfollowed := true, recurses := true, apart := false }
def ProbeBoundsSaid : Prop := probeBoundsRow.holds Try.pinned (OpenSpec.ofChange probeBoundsSpec)

/-- ITS FALSE NEIGHBOUR: 'it returns false'. Refute it at one input. -/
def probeBoundsWrong : ChangeSpec := { name := "probeBounds", fn := fun _ => fun
  | [d] => { results := [.lit (.bool false)], args := [d] }
  | _ => none }
def ProbeBoundsWrongFalsely : Prop := probeBoundsRow.holds Try.pinned (OpenSpec.ofChange probeBoundsWrong)

/- THE SECOND FORM. 'bulk': how many values and letters a reading holds, each counted each time it is reached (what is shared counts as often as it is met; a slice's spare places count too). A statement '..UptoSaid' is the law's where the arguments, and the package variables that the reading takes, are together of bulk at most 1048576: NARROWER than '..Said'. Prove '..Said' where nothing that the law and all that it calls make is longer than what came in: it says more and counts as full. Else prove '..UptoSaid'. A law counts once. -/
mutual
def uptoBulk {H : Type} : DataW H → Nat
  | .lit (.string bytes) => bytes.length + 1
  | .lit _ => 1
  | .nil => 1
  | .ptr d => uptoBulk d + 1
  | .slice elems spare => uptoBulkAll elems + uptoBulkAll spare + 1
  | .agg parts => uptoBulkAll parts + 1
  | .iface _ d => uptoBulk d + 1
  | .map entries => uptoBulkEntries entries + 1
  | .held _ => 1
def uptoBulkAll {H : Type} : List (DataW H) → Nat
  | [] => 0
  | d :: r => uptoBulk d + uptoBulkAll r
def uptoBulkEntries {H : Type} : List (Lit × DataW H) → Nat
  | [] => 0
  | x :: r => uptoBulkEntry x + uptoBulkEntries r
def uptoBulkEntry {H : Type} : Lit × DataW H → Nat
  | (.string bytes, d) => bytes.length + uptoBulk d + 1
  | (_, d) => uptoBulk d + 1
 end
def uptoSmall : (H : Type) → List (DataW H) → Bool := fun _ ds => decide (uptoBulkAll ds ≤ 1048576)
def OpenSpec.upto (s : _root_.Go.ChangeSpec) : _root_.Go.OpenSpec := { _root_.Go.OpenSpec.ofChange s with cond := some uptoSmall }

/-- 'mosaiclaw28.ProbePlays', WHERE WHAT IT READS IS OF BULK AT MOST 1048576: true; the input reads as it did. -/
def probePlaysUptoRow : OpenClaim := { program := "ytmanojnhjhpokaa", sum := "ae35b886fc6f06b053a8d34e464aa8618786da40610295ee434c726c6775b2ad", func := "mosaic/mosaiclaw28.ProbePlays", spec := "probePlays", unfollowed := true, recurses := true, apart := false, narrowed := true }
def ProbePlaysUptoSaid : Prop := probePlaysUptoRow.holds Try.pinned (OpenSpec.upto probePlaysSpec)

/-- 'mosaiclaw28.ProbeSettles', WHERE WHAT IT READS IS OF BULK AT MOST 1048576: true; the input reads as it did. -/
def probeSettlesUptoRow : OpenClaim := { program := "ytmanojnhjhpokaa", sum := "ae35b886fc6f06b053a8d34e464aa8618786da40610295ee434c726c6775b2ad", func := "mosaic/mosaiclaw28.ProbeSettles", spec := "probeSettles", unfollowed := true, recurses := true, apart := false, narrowed := true }
def ProbeSettlesUptoSaid : Prop := probeSettlesUptoRow.holds Try.pinned (OpenSpec.upto probeSettlesSpec)

/-- 'mosaiclaw28.ProbeWithin', WHERE WHAT IT READS IS OF BULK AT MOST 1048576: true; the input reads as it did. -/
def probeWithinUptoRow : OpenClaim := { program := "ytmanojnhjhpokaa", sum := "ae35b886fc6f06b053a8d34e464aa8618786da40610295ee434c726c6775b2ad", func := "mosaic/mosaiclaw28.ProbeWithin", spec := "probeWithin", unfollowed := true, recurses := true, apart := false, narrowed := true }
def ProbeWithinUptoSaid : Prop := probeWithinUptoRow.holds Try.pinned (OpenSpec.upto probeWithinSpec)

/-- 'mosaiclaw28.ProbeHole', WHERE WHAT IT READS IS OF BULK AT MOST 1048576: true; the input reads as it did. -/
def probeHoleUptoRow : OpenClaim := { program := "ytmanojnhjhpokaa", sum := "ae35b886fc6f06b053a8d34e464aa8618786da40610295ee434c726c6775b2ad", func := "mosaic/mosaiclaw28.ProbeHole", spec := "probeHole", unfollowed := true, recurses := true, apart := false, narrowed := true }
def ProbeHoleUptoSaid : Prop := probeHoleUptoRow.holds Try.pinned (OpenSpec.upto probeHoleSpec)

/-- 'mosaiclaw28.ProbeBounds', WHERE WHAT IT READS IS OF BULK AT MOST 1048576: true; the input reads as it did. -/
def probeBoundsUptoRow : OpenClaim := { program := "ytmanojnhjhpokaa", sum := "ae35b886fc6f06b053a8d34e464aa8618786da40610295ee434c726c6775b2ad", func := "mosaic/mosaiclaw28.ProbeBounds", spec := "probeBounds", unfollowed := true, recurses := true, apart := false, narrowed := true }
def ProbeBoundsUptoSaid : Prop := probeBoundsUptoRow.holds Try.pinned (OpenSpec.upto probeBoundsSpec)

end Rows
end Go.Proofs.Ytmanojnhjhpokaa
