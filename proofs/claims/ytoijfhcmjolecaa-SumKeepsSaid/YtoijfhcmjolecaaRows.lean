/-
  No cell of these rows narrows 'for every input' (looked for: loops, veiled, ifaces, maps, wideKeys, modest, calm, conditions, laid).
  DERIVED. THE GIVEN ROWS OF THIS SEAT. 7 by the template 'for every input the law returns true; each argument reads behind the call as it read before'; 0 by the template 'total and deterministic' (their statements: YtoijfhcmjolecaaTotals.lean).
  GIVEN WITH THE SEED: the statements are not yours to turn. If you find one false, say at which input.
  Laid BY PROGRAM, IN A SANDBOX (cutbox-rows.mjs): the forced cells as the released guide's own fill.sh prints them over the translation cadf7cf2b564d346… (all of the seat's roots in one cut). By AI agents, Wed Nov 11 2026. No macro, syntax, notation, axiom, sorry.
-/
import Derived.Test.YtoijfhcmjolecaaChecked
import GoSem.Claim
import GoSem.ClaimJoined
import GoSem.ClaimMapViews
import Derived.JoinedTies
import Derived.KernelRfl
namespace Go.Proofs.Ytoijfhcmjolecaa
/- THE CELL 'sum', in the pinned program and in every row, IS THE sha256 OF THE DUMP (.gsa) THAT YtoijfhcmjolecaaProg.lean LOADS. Nothing in Lean hashes anything: it is a label: what it is worth is what the hold of that sum in a sandbox is worth. -/
noncomputable def Try.pinned : Pinned := { name := "ytoijfhcmjolecaa", sum := "cadf7cf2b564d34693a786dd20eb8dfea2b4859597a1d91d5b69741e4892b11b", checked := Try.checked }
namespace Rows
def none {H : Type} : Left H := { results := [], args := [] }

/-- 'mosaiclaw01.SumPieces': WHATEVER THE INPUT: true; the input reads as it did. -/
def sumPiecesSpec : ChangeSpec := { name := "sumPieces", fn := fun _ => fun
  | [d1, d2] => { results := [.lit (.bool true)], args := [d1, d2] }
  | _ => none }
def sumPiecesRow : OpenClaim := { program := "ytoijfhcmjolecaa", sum := "cadf7cf2b564d34693a786dd20eb8dfea2b4859597a1d91d5b69741e4892b11b", func := "mosaic/mosaiclaw01.SumPieces", spec := "sumPieces", apart := false }
def SumPiecesSaid : Prop := sumPiecesRow.holds Try.pinned (OpenSpec.ofChange sumPiecesSpec)

/-- ITS FALSE NEIGHBOUR: 'it returns false'. Refute it at one input. -/
def sumPiecesWrong : ChangeSpec := { name := "sumPieces", fn := fun _ => fun
  | [d1, d2] => { results := [.lit (.bool false)], args := [d1, d2] }
  | _ => none }
def SumPiecesWrongFalsely : Prop := sumPiecesRow.holds Try.pinned (OpenSpec.ofChange sumPiecesWrong)

/-- 'mosaiclaw01.SumAdds': WHATEVER THE INPUT: true; the input reads as it did. -/
def sumAddsSpec : ChangeSpec := { name := "sumAdds", fn := fun _ => fun
  | [d1, d2, d3] => { results := [.lit (.bool true)], args := [d1, d2, d3] }
  | _ => none }
def sumAddsRow : OpenClaim := { program := "ytoijfhcmjolecaa", sum := "cadf7cf2b564d34693a786dd20eb8dfea2b4859597a1d91d5b69741e4892b11b", func := "mosaic/mosaiclaw01.SumAdds", spec := "sumAdds", apart := false }
def SumAddsSaid : Prop := sumAddsRow.holds Try.pinned (OpenSpec.ofChange sumAddsSpec)

/-- ITS FALSE NEIGHBOUR: 'it returns false'. Refute it at one input. -/
def sumAddsWrong : ChangeSpec := { name := "sumAdds", fn := fun _ => fun
  | [d1, d2, d3] => { results := [.lit (.bool false)], args := [d1, d2, d3] }
  | _ => none }
def SumAddsWrongFalsely : Prop := sumAddsRow.holds Try.pinned (OpenSpec.ofChange sumAddsWrong)

/-- 'mosaiclaw01.SumOrders': WHATEVER THE INPUT: true; the input reads as it did. -/
def sumOrdersSpec : ChangeSpec := { name := "sumOrders", fn := fun _ => fun
  | [d1, d2, d3] => { results := [.lit (.bool true)], args := [d1, d2, d3] }
  | _ => none }
def sumOrdersRow : OpenClaim := { program := "ytoijfhcmjolecaa", sum := "cadf7cf2b564d34693a786dd20eb8dfea2b4859597a1d91d5b69741e4892b11b", func := "mosaic/mosaiclaw01.SumOrders", spec := "sumOrders", apart := false }
def SumOrdersSaid : Prop := sumOrdersRow.holds Try.pinned (OpenSpec.ofChange sumOrdersSpec)

/-- ITS FALSE NEIGHBOUR: 'it returns false'. Refute it at one input. -/
def sumOrdersWrong : ChangeSpec := { name := "sumOrders", fn := fun _ => fun
  | [d1, d2, d3] => { results := [.lit (.bool false)], args := [d1, d2, d3] }
  | _ => none }
def SumOrdersWrongFalsely : Prop := sumOrdersRow.holds Try.pinned (OpenSpec.ofChange sumOrdersWrong)

/-- 'mosaiclaw01.SumVerifies': WHATEVER THE INPUT: true; the input reads as it did. -/
def sumVerifiesSpec : ChangeSpec := { name := "sumVerifies", fn := fun _ => fun
  | [d1, d2] => { results := [.lit (.bool true)], args := [d1, d2] }
  | _ => none }
def sumVerifiesRow : OpenClaim := { program := "ytoijfhcmjolecaa", sum := "cadf7cf2b564d34693a786dd20eb8dfea2b4859597a1d91d5b69741e4892b11b", func := "mosaic/mosaiclaw01.SumVerifies", spec := "sumVerifies", apart := false }
def SumVerifiesSaid : Prop := sumVerifiesRow.holds Try.pinned (OpenSpec.ofChange sumVerifiesSpec)

/-- ITS FALSE NEIGHBOUR: 'it returns false'. Refute it at one input. -/
def sumVerifiesWrong : ChangeSpec := { name := "sumVerifies", fn := fun _ => fun
  | [d1, d2] => { results := [.lit (.bool false)], args := [d1, d2] }
  | _ => none }
def SumVerifiesWrongFalsely : Prop := sumVerifiesRow.holds Try.pinned (OpenSpec.ofChange sumVerifiesWrong)

/-- 'mosaiclaw01.SumKeeps': WHATEVER THE INPUT: true; the input reads as it did. -/
def sumKeepsSpec : ChangeSpec := { name := "sumKeeps", fn := fun _ => fun
  | [d1, d2] => { results := [.lit (.bool true)], args := [d1, d2] }
  | _ => none }
def sumKeepsRow : OpenClaim := { program := "ytoijfhcmjolecaa", sum := "cadf7cf2b564d34693a786dd20eb8dfea2b4859597a1d91d5b69741e4892b11b", func := "mosaic/mosaiclaw01.SumKeeps", spec := "sumKeeps", apart := false }
def SumKeepsSaid : Prop := sumKeepsRow.holds Try.pinned (OpenSpec.ofChange sumKeepsSpec)

/-- ITS FALSE NEIGHBOUR: 'it returns false'. Refute it at one input. -/
def sumKeepsWrong : ChangeSpec := { name := "sumKeeps", fn := fun _ => fun
  | [d1, d2] => { results := [.lit (.bool false)], args := [d1, d2] }
  | _ => none }
def SumKeepsWrongFalsely : Prop := sumKeepsRow.holds Try.pinned (OpenSpec.ofChange sumKeepsWrong)

/-- 'mosaiclaw01.SumPlays': WHATEVER THE INPUT: true; the input reads as it did. -/
def sumPlaysSpec : ChangeSpec := { name := "sumPlays", fn := fun _ => fun
  | [d1, d2, d3, d4, d5] => { results := [.lit (.bool true)], args := [d1, d2, d3, d4, d5] }
  | _ => none }
def sumPlaysRow : OpenClaim := { program := "ytoijfhcmjolecaa", sum := "cadf7cf2b564d34693a786dd20eb8dfea2b4859597a1d91d5b69741e4892b11b", func := "mosaic/mosaiclaw01.SumPlays", spec := "sumPlays", apart := false }
def SumPlaysSaid : Prop := sumPlaysRow.holds Try.pinned (OpenSpec.ofChange sumPlaysSpec)

/-- ITS FALSE NEIGHBOUR: 'it returns false'. Refute it at one input. -/
def sumPlaysWrong : ChangeSpec := { name := "sumPlays", fn := fun _ => fun
  | [d1, d2, d3, d4, d5] => { results := [.lit (.bool false)], args := [d1, d2, d3, d4, d5] }
  | _ => none }
def SumPlaysWrongFalsely : Prop := sumPlaysRow.holds Try.pinned (OpenSpec.ofChange sumPlaysWrong)

/-- 'mosaiclaw01.SumPatches': WHATEVER THE INPUT: true; the input reads as it did. -/
def sumPatchesSpec : ChangeSpec := { name := "sumPatches", fn := fun _ => fun
  | [d1, d2, d3] => { results := [.lit (.bool true)], args := [d1, d2, d3] }
  | _ => none }
def sumPatchesRow : OpenClaim := { program := "ytoijfhcmjolecaa", sum := "cadf7cf2b564d34693a786dd20eb8dfea2b4859597a1d91d5b69741e4892b11b", func := "mosaic/mosaiclaw01.SumPatches", spec := "sumPatches", apart := false }
def SumPatchesSaid : Prop := sumPatchesRow.holds Try.pinned (OpenSpec.ofChange sumPatchesSpec)

/-- ITS FALSE NEIGHBOUR: 'it returns false'. Refute it at one input. -/
def sumPatchesWrong : ChangeSpec := { name := "sumPatches", fn := fun _ => fun
  | [d1, d2, d3] => { results := [.lit (.bool false)], args := [d1, d2, d3] }
  | _ => none }
def SumPatchesWrongFalsely : Prop := sumPatchesRow.holds Try.pinned (OpenSpec.ofChange sumPatchesWrong)

/- THE SECOND FORM. 'bulk': how many values and letters a reading holds, each counted each time it is reached (what is shared counts as often as it is met; a slice's spare places count too). A statement '..UptoSaid' is the law's where the arguments, and the package variables that the reading takes, are together of bulk at most 1048576: NARROWER than '..Said'. Prove '..Said' where nothing that the law and all that it calls make is longer than what came in: it says more and counts as full. Else prove '..UptoSaid'. A law counts once. -/
mutual
def uptoBulk {H : Type} : DataW H → Nat
  | .lit (.string bytes) => bytes.length + 1
  | .lit _ => 1
  | .nil => 1
  | .ptr d => uptoBulk d + 1
  | .slice elems spare => uptoBulkAll elems + uptoBulkAll spare + 1
  | .agg parts => uptoBulkAll parts + 1
  | .iface _ d => uptoBulk d + 1
  | .map entries => uptoBulkEntries entries + 1
  | .held _ => 1
def uptoBulkAll {H : Type} : List (DataW H) → Nat
  | [] => 0
  | d :: r => uptoBulk d + uptoBulkAll r
def uptoBulkEntries {H : Type} : List (Lit × DataW H) → Nat
  | [] => 0
  | x :: r => uptoBulkEntry x + uptoBulkEntries r
def uptoBulkEntry {H : Type} : Lit × DataW H → Nat
  | (.string bytes, d) => bytes.length + uptoBulk d + 1
  | (_, d) => uptoBulk d + 1
 end
def uptoSmall : (H : Type) → List (DataW H) → Bool := fun _ ds => decide (uptoBulkAll ds ≤ 1048576)
def OpenSpec.upto (s : _root_.Go.ChangeSpec) : _root_.Go.OpenSpec := { _root_.Go.OpenSpec.ofChange s with cond := some uptoSmall }

/-- 'mosaiclaw01.SumPieces', WHERE WHAT IT READS IS OF BULK AT MOST 1048576: true; the input reads as it did. -/
def sumPiecesUptoRow : OpenClaim := { program := "ytoijfhcmjolecaa", sum := "cadf7cf2b564d34693a786dd20eb8dfea2b4859597a1d91d5b69741e4892b11b", func := "mosaic/mosaiclaw01.SumPieces", spec := "sumPieces", apart := false, narrowed := true }
def SumPiecesUptoSaid : Prop := sumPiecesUptoRow.holds Try.pinned (OpenSpec.upto sumPiecesSpec)

/-- 'mosaiclaw01.SumAdds', WHERE WHAT IT READS IS OF BULK AT MOST 1048576: true; the input reads as it did. -/
def sumAddsUptoRow : OpenClaim := { program := "ytoijfhcmjolecaa", sum := "cadf7cf2b564d34693a786dd20eb8dfea2b4859597a1d91d5b69741e4892b11b", func := "mosaic/mosaiclaw01.SumAdds", spec := "sumAdds", apart := false, narrowed := true }
def SumAddsUptoSaid : Prop := sumAddsUptoRow.holds Try.pinned (OpenSpec.upto sumAddsSpec)

/-- 'mosaiclaw01.SumOrders', WHERE WHAT IT READS IS OF BULK AT MOST 1048576: true; the input reads as it did. -/
def sumOrdersUptoRow : OpenClaim := { program := "ytoijfhcmjolecaa", sum := "cadf7cf2b564d34693a786dd20eb8dfea2b4859597a1d91d5b69741e4892b11b", func := "mosaic/mosaiclaw01.SumOrders", spec := "sumOrders", apart := false, narrowed := true }
def SumOrdersUptoSaid : Prop := sumOrdersUptoRow.holds Try.pinned (OpenSpec.upto sumOrdersSpec)

/-- 'mosaiclaw01.SumVerifies', WHERE WHAT IT READS IS OF BULK AT MOST 1048576: true; the input reads as it did. -/
def sumVerifiesUptoRow : OpenClaim := { program := "ytoijfhcmjolecaa", sum := "cadf7cf2b564d34693a786dd20eb8dfea2b4859597a1d91d5b69741e4892b11b", func := "mosaic/mosaiclaw01.SumVerifies", spec := "sumVerifies", apart := false, narrowed := true }
def SumVerifiesUptoSaid : Prop := sumVerifiesUptoRow.holds Try.pinned (OpenSpec.upto sumVerifiesSpec)

/-- 'mosaiclaw01.SumKeeps', WHERE WHAT IT READS IS OF BULK AT MOST 1048576: true; the input reads as it did. -/
def sumKeepsUptoRow : OpenClaim := { program := "ytoijfhcmjolecaa", sum := "cadf7cf2b564d34693a786dd20eb8dfea2b4859597a1d91d5b69741e4892b11b", func := "mosaic/mosaiclaw01.SumKeeps", spec := "sumKeeps", apart := false, narrowed := true }
def SumKeepsUptoSaid : Prop := sumKeepsUptoRow.holds Try.pinned (OpenSpec.upto sumKeepsSpec)

/-- 'mosaiclaw01.SumPlays', WHERE WHAT IT READS IS OF BULK AT MOST 1048576: true; the input reads as it did. -/
def sumPlaysUptoRow : OpenClaim := { program := "ytoijfhcmjolecaa", sum := "cadf7cf2b564d34693a786dd20eb8dfea2b4859597a1d91d5b69741e4892b11b", func := "mosaic/mosaiclaw01.SumPlays", spec := "sumPlays", apart := false, narrowed := true }
def SumPlaysUptoSaid : Prop := sumPlaysUptoRow.holds Try.pinned (OpenSpec.upto sumPlaysSpec)

/-- 'mosaiclaw01.SumPatches', WHERE WHAT IT READS IS OF BULK AT MOST 1048576: true; the input reads as it did. -/
def sumPatchesUptoRow : OpenClaim := { program := "ytoijfhcmjolecaa", sum := "cadf7cf2b564d34693a786dd20eb8dfea2b4859597a1d91d5b69741e4892b11b", func := "mosaic/mosaiclaw01.SumPatches", spec := "sumPatches", apart := false, narrowed := true }
def SumPatchesUptoSaid : Prop := sumPatchesUptoRow.holds Try.pinned (OpenSpec.upto sumPatchesSpec)

end Rows
end Go.Proofs.Ytoijfhcmjolecaa
