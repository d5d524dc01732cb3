/-
  No cell of these rows narrows 'for every input' (looked for: loops, veiled, ifaces, maps, wideKeys, modest, calm, conditions, laid).
  DERIVED. THE GIVEN ROWS OF THIS SEAT. 6 by the template 'for every input the law returns true; each argument reads behind the call as it read before'; 0 by the template 'total and deterministic' (their statements: YtphdildkhaeimaaTotals.lean).
  GIVEN WITH THE SEED: the statements are not yours to turn. If you find one false, say at which input.
  Laid BY PROGRAM, IN A SANDBOX (cutbox-rows.mjs): the forced cells as the released guide's own fill.sh prints them over the translation 7d16594f72cc430b… (all of the seat's roots in one cut). By AI agents, Wed Nov 11 2026. No macro, syntax, notation, axiom, sorry.
-/
import Derived.Test.YtphdildkhaeimaaChecked
import GoSem.Claim
import GoSem.ClaimJoined
import GoSem.ClaimMapViews
import Derived.JoinedTies
import Derived.KernelRfl
namespace Go.Proofs.Ytphdildkhaeimaa
/- THE CELL 'sum', in the pinned program and in every row, IS THE sha256 OF THE DUMP (.gsa) THAT YtphdildkhaeimaaProg.lean LOADS. Nothing in Lean hashes anything: it is a label: what it is worth is what the hold of that sum in a sandbox is worth. -/
noncomputable def Try.pinned : Pinned := { name := "ytphdildkhaeimaa", sum := "7d16594f72cc430bc1d457da0a54487efd139eb40663f4e51d682080c41da33a", checked := Try.checked }
namespace Rows
def none {H : Type} : Left H := { results := [], args := [] }

/-- 'laws.FnExactNextRandom': WHATEVER THE INPUT: true; the input reads as it did. -/
def fnExactNextRandomSpec : ChangeSpec := { name := "fnExactNextRandom", fn := fun _ => fun
  | [d] => { results := [.lit (.bool true)], args := [d] }
  | _ => none }
def fnExactNextRandomRow : OpenClaim := { program := "ytphdildkhaeimaa", sum := "7d16594f72cc430bc1d457da0a54487efd139eb40663f4e51d682080c41da33a", func := "loop.example/g03311/laws.FnExactNextRandom", spec := "fnExactNextRandom", apart := false }
def FnExactNextRandomSaid : Prop := fnExactNextRandomRow.holds Try.pinned (OpenSpec.ofChange fnExactNextRandomSpec)

/-- ITS FALSE NEIGHBOUR: 'it returns false'. Refute it at one input. -/
def fnExactNextRandomWrong : ChangeSpec := { name := "fnExactNextRandom", fn := fun _ => fun
  | [d] => { results := [.lit (.bool false)], args := [d] }
  | _ => none }
def FnExactNextRandomWrongFalsely : Prop := fnExactNextRandomRow.holds Try.pinned (OpenSpec.ofChange fnExactNextRandomWrong)

/-- 'laws.FnExactBlockTile': WHATEVER THE INPUT: true; the input reads as it did. -/
def fnExactBlockTileSpec : ChangeSpec := { name := "fnExactBlockTile", fn := fun _ => fun
  | [d] => { results := [.lit (.bool true)], args := [d] }
  | _ => none }
def fnExactBlockTileRow : OpenClaim := { program := "ytphdildkhaeimaa", sum := "7d16594f72cc430bc1d457da0a54487efd139eb40663f4e51d682080c41da33a", func := "loop.example/g03311/laws.FnExactBlockTile", spec := "fnExactBlockTile", apart := false }
def FnExactBlockTileSaid : Prop := fnExactBlockTileRow.holds Try.pinned (OpenSpec.ofChange fnExactBlockTileSpec)

/-- ITS FALSE NEIGHBOUR: 'it returns false'. Refute it at one input. -/
def fnExactBlockTileWrong : ChangeSpec := { name := "fnExactBlockTile", fn := fun _ => fun
  | [d] => { results := [.lit (.bool false)], args := [d] }
  | _ => none }
def FnExactBlockTileWrongFalsely : Prop := fnExactBlockTileRow.holds Try.pinned (OpenSpec.ofChange fnExactBlockTileWrong)

/-- 'laws.FnExactCostsOk': WHATEVER THE INPUT: true; the input reads as it did. -/
def fnExactCostsOkSpec : ChangeSpec := { name := "fnExactCostsOk", fn := fun _ => fun
  | [d1, d2] => { results := [.lit (.bool true)], args := [d1, d2] }
  | _ => none }
def fnExactCostsOkRow : OpenClaim := { program := "ytphdildkhaeimaa", sum := "7d16594f72cc430bc1d457da0a54487efd139eb40663f4e51d682080c41da33a", func := "loop.example/g03311/laws.FnExactCostsOk", spec := "fnExactCostsOk", apart := false }
def FnExactCostsOkSaid : Prop := fnExactCostsOkRow.holds Try.pinned (OpenSpec.ofChange fnExactCostsOkSpec)

/-- ITS FALSE NEIGHBOUR: 'it returns false'. Refute it at one input. -/
def fnExactCostsOkWrong : ChangeSpec := { name := "fnExactCostsOk", fn := fun _ => fun
  | [d1, d2] => { results := [.lit (.bool false)], args := [d1, d2] }
  | _ => none }
def FnExactCostsOkWrongFalsely : Prop := fnExactCostsOkRow.holds Try.pinned (OpenSpec.ofChange fnExactCostsOkWrong)

/-- 'laws.FnExactWireNode': WHATEVER THE INPUT: true; the input reads as it did. -/
def fnExactWireNodeSpec : ChangeSpec := { name := "fnExactWireNode", fn := fun _ => fun
  | [d1, d2, d3, d4] => { results := [.lit (.bool true)], args := [d1, d2, d3, d4] }
  | _ => none }
def fnExactWireNodeRow : OpenClaim := { program := "ytphdildkhaeimaa", sum := "7d16594f72cc430bc1d457da0a54487efd139eb40663f4e51d682080c41da33a", func := "loop.example/g03311/laws.FnExactWireNode", spec := "fnExactWireNode", apart := false }
def FnExactWireNodeSaid : Prop := fnExactWireNodeRow.holds Try.pinned (OpenSpec.ofChange fnExactWireNodeSpec)

/-- ITS FALSE NEIGHBOUR: 'it returns false'. Refute it at one input. -/
def fnExactWireNodeWrong : ChangeSpec := { name := "fnExactWireNode", fn := fun _ => fun
  | [d1, d2, d3, d4] => { results := [.lit (.bool false)], args := [d1, d2, d3, d4] }
  | _ => none }
def FnExactWireNodeWrongFalsely : Prop := fnExactWireNodeRow.holds Try.pinned (OpenSpec.ofChange fnExactWireNodeWrong)

/-- 'laws.FnExactInPin': WHATEVER THE INPUT: true; the input reads as it did. -/
def fnExactInPinSpec : ChangeSpec := { name := "fnExactInPin", fn := fun _ => fun
  | [d1, d2, d3] => { results := [.lit (.bool true)], args := [d1, d2, d3] }
  | _ => none }
def fnExactInPinRow : OpenClaim := { program := "ytphdildkhaeimaa", sum := "7d16594f72cc430bc1d457da0a54487efd139eb40663f4e51d682080c41da33a", func := "loop.example/g03311/laws.FnExactInPin", spec := "fnExactInPin", apart := false }
def FnExactInPinSaid : Prop := fnExactInPinRow.holds Try.pinned (OpenSpec.ofChange fnExactInPinSpec)

/-- ITS FALSE NEIGHBOUR: 'it returns false'. Refute it at one input. -/
def fnExactInPinWrong : ChangeSpec := { name := "fnExactInPin", fn := fun _ => fun
  | [d1, d2, d3] => { results := [.lit (.bool false)], args := [d1, d2, d3] }
  | _ => none }
def FnExactInPinWrongFalsely : Prop := fnExactInPinRow.holds Try.pinned (OpenSpec.ofChange fnExactInPinWrong)

/-- 'laws.FnExactTimingOk': WHATEVER THE INPUT: true; the input reads as it did. -/
def fnExactTimingOkSpec : ChangeSpec := { name := "fnExactTimingOk", fn := fun _ => fun
  | [d] => { results := [.lit (.bool true)], args := [d] }
  | _ => none }
def fnExactTimingOkRow : OpenClaim := { program := "ytphdildkhaeimaa", sum := "7d16594f72cc430bc1d457da0a54487efd139eb40663f4e51d682080c41da33a", func := "loop.example/g03311/laws.FnExactTimingOk", spec := "fnExactTimingOk", apart := false }
def FnExactTimingOkSaid : Prop := fnExactTimingOkRow.holds Try.pinned (OpenSpec.ofChange fnExactTimingOkSpec)

/-- ITS FALSE NEIGHBOUR: 'it returns false'. Refute it at one input. -/
def fnExactTimingOkWrong : ChangeSpec := { name := "fnExactTimingOk", fn := fun _ => fun
  | [d] => { results := [.lit (.bool false)], args := [d] }
  | _ => none }
def FnExactTimingOkWrongFalsely : Prop := fnExactTimingOkRow.holds Try.pinned (OpenSpec.ofChange fnExactTimingOkWrong)

/- THE SECOND FORM. 'bulk': how many values and letters a reading holds, each counted each time it is reached (what is shared counts as often as it is met; a slice's spare places count too). A statement '..UptoSaid' is the law's where the arguments, and the package variables that the reading takes, are together of bulk at most 1048576: NARROWER than '..Said'. Prove '..Said' where nothing that the law and all that it calls make is longer than what came in: it says more and counts as full. Else prove '..UptoSaid'. A law counts once. -/
mutual
def uptoBulk {H : Type} : DataW H → Nat
  | .lit (.string bytes) => bytes.length + 1
  | .lit _ => 1
  | .nil => 1
  | .ptr d => uptoBulk d + 1
  | .slice elems spare => uptoBulkAll elems + uptoBulkAll spare + 1
  | .agg parts => uptoBulkAll parts + 1
  | .iface _ d => uptoBulk d + 1
  | .map entries => uptoBulkEntries entries + 1
  | .held _ => 1
def uptoBulkAll {H : Type} : List (DataW H) → Nat
  | [] => 0
  | d :: r => uptoBulk d + uptoBulkAll r
def uptoBulkEntries {H : Type} : List (Lit × DataW H) → Nat
  | [] => 0
  | x :: r => uptoBulkEntry x + uptoBulkEntries r
def uptoBulkEntry {H : Type} : Lit × DataW H → Nat
  | (.string bytes, d) => bytes.length + uptoBulk d + 1
  | (_, d) => uptoBulk d + 1
 end
def uptoSmall : (H : Type) → List (DataW H) → Bool := fun _ ds => decide (uptoBulkAll ds ≤ 1048576)
def OpenSpec.upto (s : _root_.Go.ChangeSpec) : _root_.Go.OpenSpec := { _root_.Go.OpenSpec.ofChange s with cond := some uptoSmall }

/-- 'laws.FnExactNextRandom', WHERE WHAT IT READS IS OF BULK AT MOST 1048576: true; the input reads as it did. -/
def fnExactNextRandomUptoRow : OpenClaim := { program := "ytphdildkhaeimaa", sum := "7d16594f72cc430bc1d457da0a54487efd139eb40663f4e51d682080c41da33a", func := "loop.example/g03311/laws.FnExactNextRandom", spec := "fnExactNextRandom", apart := false, narrowed := true }
def FnExactNextRandomUptoSaid : Prop := fnExactNextRandomUptoRow.holds Try.pinned (OpenSpec.upto fnExactNextRandomSpec)

/-- 'laws.FnExactBlockTile', WHERE WHAT IT READS IS OF BULK AT MOST 1048576: true; the input reads as it did. -/
def fnExactBlockTileUptoRow : OpenClaim := { program := "ytphdildkhaeimaa", sum := "7d16594f72cc430bc1d457da0a54487efd139eb40663f4e51d682080c41da33a", func := "loop.example/g03311/laws.FnExactBlockTile", spec := "fnExactBlockTile", apart := false, narrowed := true }
def FnExactBlockTileUptoSaid : Prop := fnExactBlockTileUptoRow.holds Try.pinned (OpenSpec.upto fnExactBlockTileSpec)

/-- 'laws.FnExactCostsOk', WHERE WHAT IT READS IS OF BULK AT MOST 1048576: true; the input reads as it did. -/
def fnExactCostsOkUptoRow : OpenClaim := { program := "ytphdildkhaeimaa", sum := "7d16594f72cc430bc1d457da0a54487efd139eb40663f4e51d682080c41da33a", func := "loop.example/g03311/laws.FnExactCostsOk", spec := "fnExactCostsOk", apart := false, narrowed := true }
def FnExactCostsOkUptoSaid : Prop := fnExactCostsOkUptoRow.holds Try.pinned (OpenSpec.upto fnExactCostsOkSpec)

/-- 'laws.FnExactWireNode', WHERE WHAT IT READS IS OF BULK AT MOST 1048576: true; the input reads as it did. -/
def fnExactWireNodeUptoRow : OpenClaim := { program := "ytphdildkhaeimaa", sum := "7d16594f72cc430bc1d457da0a54487efd139eb40663f4e51d682080c41da33a", func := "loop.example/g03311/laws.FnExactWireNode", spec := "fnExactWireNode", apart := false, narrowed := true }
def FnExactWireNodeUptoSaid : Prop := fnExactWireNodeUptoRow.holds Try.pinned (OpenSpec.upto fnExactWireNodeSpec)

/-- 'laws.FnExactInPin', WHERE WHAT IT READS IS OF BULK AT MOST 1048576: true; the input reads as it did. -/
def fnExactInPinUptoRow : OpenClaim := { program := "ytphdildkhaeimaa", sum := "7d16594f72cc430bc1d457da0a54487efd139eb40663f4e51d682080c41da33a", func := "loop.example/g03311/laws.FnExactInPin", spec := "fnExactInPin", apart := false, narrowed := true }
def FnExactInPinUptoSaid : Prop := fnExactInPinUptoRow.holds Try.pinned (OpenSpec.upto fnExactInPinSpec)

/-- 'laws.FnExactTimingOk', WHERE WHAT IT READS IS OF BULK AT MOST 1048576: true; the input reads as it did. -/
def fnExactTimingOkUptoRow : OpenClaim := { program := "ytphdildkhaeimaa", sum := "7d16594f72cc430bc1d457da0a54487efd139eb40663f4e51d682080c41da33a", func := "loop.example/g03311/laws.FnExactTimingOk", spec := "fnExactTimingOk", apart := false, narrowed := true }
def FnExactTimingOkUptoSaid : Prop := fnExactTimingOkUptoRow.holds Try.pinned (OpenSpec.upto fnExactTimingOkSpec)

end Rows
end Go.Proofs.Ytphdildkhaeimaa
