/-
  No cell of these rows narrows 'for every input' (looked for: loops, veiled, ifaces, maps, wideKeys, modest, calm, conditions, laid).
  DERIVED. THE GIVEN ROWS OF THIS SEAT. 12 by the template 'for every input the law returns true; each argument reads behind the call as it read before'; 0 by the template 'total and deterministic' (their statements: YtlfmlhoajobafaaTotals.lean).
  GIVEN WITH THE SEED: the statements are not yours to turn. If you find one false, say at which input.
  Laid BY PROGRAM, IN A SANDBOX (cutbox-rows.mjs): the forced cells as the released guide's own fill.sh prints them over the translation 67998e4321ab57fc… (all of the seat's roots in one cut). By AI agents, Wed Nov 11 2026. No macro, syntax, notation, axiom, sorry.
-/
import Derived.Test.YtlfmlhoajobafaaChecked
import GoSem.Claim
import GoSem.ClaimJoined
import GoSem.ClaimMapViews
import Derived.JoinedTies
import Derived.KernelRfl
namespace Go.Proofs.Ytlfmlhoajobafaa
/- THE CELL 'sum', in the pinned program and in every row, IS THE sha256 OF THE DUMP (.gsa) THAT YtlfmlhoajobafaaProg.lean LOADS. Nothing in Lean hashes anything: it is a label: what it is worth is what the hold of that sum in a sandbox is worth. -/
noncomputable def Try.pinned : Pinned := { name := "ytlfmlhoajobafaa", sum := "67998e4321ab57fcba7399a92f2e14da8a00db71c67cdb70602505998ff191ff", checked := Try.checked }
namespace Rows
def none {H : Type} : Left H := { results := [], args := [] }

/-- 'laws.FnExactAverages': WHATEVER THE INPUT: true; the input reads as it did. -/
def fnExactAveragesSpec : ChangeSpec := { name := "fnExactAverages", fn := fun _ => fun
  | [d1, d2, d3, d4] => { results := [.lit (.bool true)], args := [d1, d2, d3, d4] }
  | _ => none }
def fnExactAveragesRow : OpenClaim := { program := "ytlfmlhoajobafaa", sum := "67998e4321ab57fcba7399a92f2e14da8a00db71c67cdb70602505998ff191ff", func := "loop.example/g03311/laws.FnExactAverages", spec := "fnExactAverages", apart := false }
def FnExactAveragesSaid : Prop := fnExactAveragesRow.holds Try.pinned (OpenSpec.ofChange fnExactAveragesSpec)

/-- ITS FALSE NEIGHBOUR: 'it returns false'. Refute it at one input. -/
def fnExactAveragesWrong : ChangeSpec := { name := "fnExactAverages", fn := fun _ => fun
  | [d1, d2, d3, d4] => { results := [.lit (.bool false)], args := [d1, d2, d3, d4] }
  | _ => none }
def FnExactAveragesWrongFalsely : Prop := fnExactAveragesRow.holds Try.pinned (OpenSpec.ofChange fnExactAveragesWrong)

/-- 'laws.FnExactAnneal': WHATEVER THE INPUT: true; the input reads as it did. -/
def fnExactAnnealSpec : ChangeSpec := { name := "fnExactAnneal", fn := fun _ => fun
  | [d1, d2, d3, d4, d5, d6] => { results := [.lit (.bool true)], args := [d1, d2, d3, d4, d5, d6] }
  | _ => none }
def fnExactAnnealRow : OpenClaim := { program := "ytlfmlhoajobafaa", sum := "67998e4321ab57fcba7399a92f2e14da8a00db71c67cdb70602505998ff191ff", func := "loop.example/g03311/laws.FnExactAnneal", spec := "fnExactAnneal", apart := false }
def FnExactAnnealSaid : Prop := fnExactAnnealRow.holds Try.pinned (OpenSpec.ofChange fnExactAnnealSpec)

/-- ITS FALSE NEIGHBOUR: 'it returns false'. Refute it at one input. -/
def fnExactAnnealWrong : ChangeSpec := { name := "fnExactAnneal", fn := fun _ => fun
  | [d1, d2, d3, d4, d5, d6] => { results := [.lit (.bool false)], args := [d1, d2, d3, d4, d5, d6] }
  | _ => none }
def FnExactAnnealWrongFalsely : Prop := fnExactAnnealRow.holds Try.pinned (OpenSpec.ofChange fnExactAnnealWrong)

/-- 'laws.FnExactInitialPlace': WHATEVER THE INPUT: true; the input reads as it did. -/
def fnExactInitialPlaceSpec : ChangeSpec := { name := "fnExactInitialPlace", fn := fun _ => fun
  | [d1, d2, d3] => { results := [.lit (.bool true)], args := [d1, d2, d3] }
  | _ => none }
def fnExactInitialPlaceRow : OpenClaim := { program := "ytlfmlhoajobafaa", sum := "67998e4321ab57fcba7399a92f2e14da8a00db71c67cdb70602505998ff191ff", func := "loop.example/g03311/laws.FnExactInitialPlace", spec := "fnExactInitialPlace", apart := false }
def FnExactInitialPlaceSaid : Prop := fnExactInitialPlaceRow.holds Try.pinned (OpenSpec.ofChange fnExactInitialPlaceSpec)

/-- ITS FALSE NEIGHBOUR: 'it returns false'. Refute it at one input. -/
def fnExactInitialPlaceWrong : ChangeSpec := { name := "fnExactInitialPlace", fn := fun _ => fun
  | [d1, d2, d3] => { results := [.lit (.bool false)], args := [d1, d2, d3] }
  | _ => none }
def FnExactInitialPlaceWrongFalsely : Prop := fnExactInitialPlaceRow.holds Try.pinned (OpenSpec.ofChange fnExactInitialPlaceWrong)

/-- 'laws.FnExactUseCount': WHATEVER THE INPUT: true; the input reads as it did. -/
def fnExactUseCountSpec : ChangeSpec := { name := "fnExactUseCount", fn := fun _ => fun
  | [d1, d2] => { results := [.lit (.bool true)], args := [d1, d2] }
  | _ => none }
def fnExactUseCountRow : OpenClaim := { program := "ytlfmlhoajobafaa", sum := "67998e4321ab57fcba7399a92f2e14da8a00db71c67cdb70602505998ff191ff", func := "loop.example/g03311/laws.FnExactUseCount", spec := "fnExactUseCount", apart := false }
def FnExactUseCountSaid : Prop := fnExactUseCountRow.holds Try.pinned (OpenSpec.ofChange fnExactUseCountSpec)

/-- ITS FALSE NEIGHBOUR: 'it returns false'. Refute it at one input. -/
def fnExactUseCountWrong : ChangeSpec := { name := "fnExactUseCount", fn := fun _ => fun
  | [d1, d2] => { results := [.lit (.bool false)], args := [d1, d2] }
  | _ => none }
def FnExactUseCountWrongFalsely : Prop := fnExactUseCountRow.holds Try.pinned (OpenSpec.ofChange fnExactUseCountWrong)

/-- 'laws.FnExactLeOk': WHATEVER THE INPUT: true; the input reads as it did. -/
def fnExactLeOkSpec : ChangeSpec := { name := "fnExactLeOk", fn := fun _ => fun
  | [d1, d2] => { results := [.lit (.bool true)], args := [d1, d2] }
  | _ => none }
def fnExactLeOkRow : OpenClaim := { program := "ytlfmlhoajobafaa", sum := "67998e4321ab57fcba7399a92f2e14da8a00db71c67cdb70602505998ff191ff", func := "loop.example/g03311/laws.FnExactLeOk", spec := "fnExactLeOk", apart := false }
def FnExactLeOkSaid : Prop := fnExactLeOkRow.holds Try.pinned (OpenSpec.ofChange fnExactLeOkSpec)

/-- ITS FALSE NEIGHBOUR: 'it returns false'. Refute it at one input. -/
def fnExactLeOkWrong : ChangeSpec := { name := "fnExactLeOk", fn := fun _ => fun
  | [d1, d2] => { results := [.lit (.bool false)], args := [d1, d2] }
  | _ => none }
def FnExactLeOkWrongFalsely : Prop := fnExactLeOkRow.holds Try.pinned (OpenSpec.ofChange fnExactLeOkWrong)

/-- 'laws.FnExactLeOutput': WHATEVER THE INPUT: true; the input reads as it did. -/
def fnExactLeOutputSpec : ChangeSpec := { name := "fnExactLeOutput", fn := fun _ => fun
  | [d1, d2] => { results := [.lit (.bool true)], args := [d1, d2] }
  | _ => none }
def fnExactLeOutputRow : OpenClaim := { program := "ytlfmlhoajobafaa", sum := "67998e4321ab57fcba7399a92f2e14da8a00db71c67cdb70602505998ff191ff", func := "loop.example/g03311/laws.FnExactLeOutput", spec := "fnExactLeOutput", apart := false }
def FnExactLeOutputSaid : Prop := fnExactLeOutputRow.holds Try.pinned (OpenSpec.ofChange fnExactLeOutputSpec)

/-- ITS FALSE NEIGHBOUR: 'it returns false'. Refute it at one input. -/
def fnExactLeOutputWrong : ChangeSpec := { name := "fnExactLeOutput", fn := fun _ => fun
  | [d1, d2] => { results := [.lit (.bool false)], args := [d1, d2] }
  | _ => none }
def FnExactLeOutputWrongFalsely : Prop := fnExactLeOutputRow.holds Try.pinned (OpenSpec.ofChange fnExactLeOutputWrong)

/-- 'laws.FnExactLeInputs': WHATEVER THE INPUT: true; the input reads as it did. -/
def fnExactLeInputsSpec : ChangeSpec := { name := "fnExactLeInputs", fn := fun _ => fun
  | [d1, d2] => { results := [.lit (.bool true)], args := [d1, d2] }
  | _ => none }
def fnExactLeInputsRow : OpenClaim := { program := "ytlfmlhoajobafaa", sum := "67998e4321ab57fcba7399a92f2e14da8a00db71c67cdb70602505998ff191ff", func := "loop.example/g03311/laws.FnExactLeInputs", spec := "fnExactLeInputs", apart := false }
def FnExactLeInputsSaid : Prop := fnExactLeInputsRow.holds Try.pinned (OpenSpec.ofChange fnExactLeInputsSpec)

/-- ITS FALSE NEIGHBOUR: 'it returns false'. Refute it at one input. -/
def fnExactLeInputsWrong : ChangeSpec := { name := "fnExactLeInputs", fn := fun _ => fun
  | [d1, d2] => { results := [.lit (.bool false)], args := [d1, d2] }
  | _ => none }
def FnExactLeInputsWrongFalsely : Prop := fnExactLeInputsRow.holds Try.pinned (OpenSpec.ofChange fnExactLeInputsWrong)

/-- 'laws.FnExactOutNodes': WHATEVER THE INPUT: true; the input reads as it did. -/
def fnExactOutNodesSpec : ChangeSpec := { name := "fnExactOutNodes", fn := fun _ => fun
  | [d1, d2] => { results := [.lit (.bool true)], args := [d1, d2] }
  | _ => none }
def fnExactOutNodesRow : OpenClaim := { program := "ytlfmlhoajobafaa", sum := "67998e4321ab57fcba7399a92f2e14da8a00db71c67cdb70602505998ff191ff", func := "loop.example/g03311/laws.FnExactOutNodes", spec := "fnExactOutNodes", apart := false }
def FnExactOutNodesSaid : Prop := fnExactOutNodesRow.holds Try.pinned (OpenSpec.ofChange fnExactOutNodesSpec)

/-- ITS FALSE NEIGHBOUR: 'it returns false'. Refute it at one input. -/
def fnExactOutNodesWrong : ChangeSpec := { name := "fnExactOutNodes", fn := fun _ => fun
  | [d1, d2] => { results := [.lit (.bool false)], args := [d1, d2] }
  | _ => none }
def FnExactOutNodesWrongFalsely : Prop := fnExactOutNodesRow.holds Try.pinned (OpenSpec.ofChange fnExactOutNodesWrong)

/-- 'laws.FnExactBlockOk': WHATEVER THE INPUT: true; the input reads as it did. -/
def fnExactBlockOkSpec : ChangeSpec := { name := "fnExactBlockOk", fn := fun _ => fun
  | [d1, d2] => { results := [.lit (.bool true)], args := [d1, d2] }
  | _ => none }
def fnExactBlockOkRow : OpenClaim := { program := "ytlfmlhoajobafaa", sum := "67998e4321ab57fcba7399a92f2e14da8a00db71c67cdb70602505998ff191ff", func := "loop.example/g03311/laws.FnExactBlockOk", spec := "fnExactBlockOk", apart := false }
def FnExactBlockOkSaid : Prop := fnExactBlockOkRow.holds Try.pinned (OpenSpec.ofChange fnExactBlockOkSpec)

/-- ITS FALSE NEIGHBOUR: 'it returns false'. Refute it at one input. -/
def fnExactBlockOkWrong : ChangeSpec := { name := "fnExactBlockOk", fn := fun _ => fun
  | [d1, d2] => { results := [.lit (.bool false)], args := [d1, d2] }
  | _ => none }
def FnExactBlockOkWrongFalsely : Prop := fnExactBlockOkRow.holds Try.pinned (OpenSpec.ofChange fnExactBlockOkWrong)

/-- 'laws.FnExactPinNodes': WHATEVER THE INPUT: true; the input reads as it did. -/
def fnExactPinNodesSpec : ChangeSpec := { name := "fnExactPinNodes", fn := fun _ => fun
  | [d1, d2] => { results := [.lit (.bool true)], args := [d1, d2] }
  | _ => none }
def fnExactPinNodesRow : OpenClaim := { program := "ytlfmlhoajobafaa", sum := "67998e4321ab57fcba7399a92f2e14da8a00db71c67cdb70602505998ff191ff", func := "loop.example/g03311/laws.FnExactPinNodes", spec := "fnExactPinNodes", apart := false }
def FnExactPinNodesSaid : Prop := fnExactPinNodesRow.holds Try.pinned (OpenSpec.ofChange fnExactPinNodesSpec)

/-- ITS FALSE NEIGHBOUR: 'it returns false'. Refute it at one input. -/
def fnExactPinNodesWrong : ChangeSpec := { name := "fnExactPinNodes", fn := fun _ => fun
  | [d1, d2] => { results := [.lit (.bool false)], args := [d1, d2] }
  | _ => none }
def FnExactPinNodesWrongFalsely : Prop := fnExactPinNodesRow.holds Try.pinned (OpenSpec.ofChange fnExactPinNodesWrong)

/-- 'laws.FnNearest': WHATEVER THE INPUT: true; the input reads as it did. -/
def fnNearestSpec : ChangeSpec := { name := "fnNearest", fn := fun _ => fun
  | [d] => { results := [.lit (.bool true)], args := [d] }
  | _ => none }
def fnNearestRow : OpenClaim := { program := "ytlfmlhoajobafaa", sum := "67998e4321ab57fcba7399a92f2e14da8a00db71c67cdb70602505998ff191ff", func := "loop.example/g03311/laws.FnNearest", spec := "fnNearest", apart := false }
def FnNearestSaid : Prop := fnNearestRow.holds Try.pinned (OpenSpec.ofChange fnNearestSpec)

/-- ITS FALSE NEIGHBOUR: 'it returns false'. Refute it at one input. -/
def fnNearestWrong : ChangeSpec := { name := "fnNearest", fn := fun _ => fun
  | [d] => { results := [.lit (.bool false)], args := [d] }
  | _ => none }
def FnNearestWrongFalsely : Prop := fnNearestRow.holds Try.pinned (OpenSpec.ofChange fnNearestWrong)

/-- 'laws.FnLongest': WHATEVER THE INPUT: true; the input reads as it did. -/
def fnLongestSpec : ChangeSpec := { name := "fnLongest", fn := fun _ => fun
  | [d] => { results := [.lit (.bool true)], args := [d] }
  | _ => none }
def fnLongestRow : OpenClaim := { program := "ytlfmlhoajobafaa", sum := "67998e4321ab57fcba7399a92f2e14da8a00db71c67cdb70602505998ff191ff", func := "loop.example/g03311/laws.FnLongest", spec := "fnLongest", apart := false }
def FnLongestSaid : Prop := fnLongestRow.holds Try.pinned (OpenSpec.ofChange fnLongestSpec)

/-- ITS FALSE NEIGHBOUR: 'it returns false'. Refute it at one input. -/
def fnLongestWrong : ChangeSpec := { name := "fnLongest", fn := fun _ => fun
  | [d] => { results := [.lit (.bool false)], args := [d] }
  | _ => none }
def FnLongestWrongFalsely : Prop := fnLongestRow.holds Try.pinned (OpenSpec.ofChange fnLongestWrong)

/- THE SECOND FORM. 'bulk': how many values and letters a reading holds, each counted each time it is reached (what is shared counts as often as it is met; a slice's spare places count too). A statement '..UptoSaid' is the law's where the arguments, and the package variables that the reading takes, are together of bulk at most 1048576: NARROWER than '..Said'. Prove '..Said' where nothing that the law and all that it calls make is longer than what came in: it says more and counts as full. Else prove '..UptoSaid'. A law counts once. -/
mutual
def uptoBulk {H : Type} : DataW H → Nat
  | .lit (.string bytes) => bytes.length + 1
  | .lit _ => 1
  | .nil => 1
  | .ptr d => uptoBulk d + 1
  | .slice elems spare => uptoBulkAll elems + uptoBulkAll spare + 1
  | .agg parts => uptoBulkAll parts + 1
  | .iface _ d => uptoBulk d + 1
  | .map entries => uptoBulkEntries entries + 1
  | .held _ => 1
def uptoBulkAll {H : Type} : List (DataW H) → Nat
  | [] => 0
  | d :: r => uptoBulk d + uptoBulkAll r
def uptoBulkEntries {H : Type} : List (Lit × DataW H) → Nat
  | [] => 0
  | x :: r => uptoBulkEntry x + uptoBulkEntries r
def uptoBulkEntry {H : Type} : Lit × DataW H → Nat
  | (.string bytes, d) => bytes.length + uptoBulk d + 1
  | (_, d) => uptoBulk d + 1
 end
def uptoSmall : (H : Type) → List (DataW H) → Bool := fun _ ds => decide (uptoBulkAll ds ≤ 1048576)
def OpenSpec.upto (s : _root_.Go.ChangeSpec) : _root_.Go.OpenSpec := { _root_.Go.OpenSpec.ofChange s with cond := some uptoSmall }

/-- 'laws.FnExactAverages', WHERE WHAT IT READS IS OF BULK AT MOST 1048576: true; the input reads as it did. -/
def fnExactAveragesUptoRow : OpenClaim := { program := "ytlfmlhoajobafaa", sum := "67998e4321ab57fcba7399a92f2e14da8a00db71c67cdb70602505998ff191ff", func := "loop.example/g03311/laws.FnExactAverages", spec := "fnExactAverages", apart := false, narrowed := true }
def FnExactAveragesUptoSaid : Prop := fnExactAveragesUptoRow.holds Try.pinned (OpenSpec.upto fnExactAveragesSpec)

/-- 'laws.FnExactAnneal', WHERE WHAT IT READS IS OF BULK AT MOST 1048576: true; the input reads as it did. -/
def fnExactAnnealUptoRow : OpenClaim := { program := "ytlfmlhoajobafaa", sum := "67998e4321ab57fcba7399a92f2e14da8a00db71c67cdb70602505998ff191ff", func := "loop.example/g03311/laws.FnExactAnneal", spec := "fnExactAnneal", apart := false, narrowed := true }
def FnExactAnnealUptoSaid : Prop := fnExactAnnealUptoRow.holds Try.pinned (OpenSpec.upto fnExactAnnealSpec)

/-- 'laws.FnExactInitialPlace', WHERE WHAT IT READS IS OF BULK AT MOST 1048576: true; the input reads as it did. -/
def fnExactInitialPlaceUptoRow : OpenClaim := { program := "ytlfmlhoajobafaa", sum := "67998e4321ab57fcba7399a92f2e14da8a00db71c67cdb70602505998ff191ff", func := "loop.example/g03311/laws.FnExactInitialPlace", spec := "fnExactInitialPlace", apart := false, narrowed := true }
def FnExactInitialPlaceUptoSaid : Prop := fnExactInitialPlaceUptoRow.holds Try.pinned (OpenSpec.upto fnExactInitialPlaceSpec)

/-- 'laws.FnExactUseCount', WHERE WHAT IT READS IS OF BULK AT MOST 1048576: true; the input reads as it did. -/
def fnExactUseCountUptoRow : OpenClaim := { program := "ytlfmlhoajobafaa", sum := "67998e4321ab57fcba7399a92f2e14da8a00db71c67cdb70602505998ff191ff", func := "loop.example/g03311/laws.FnExactUseCount", spec := "fnExactUseCount", apart := false, narrowed := true }
def FnExactUseCountUptoSaid : Prop := fnExactUseCountUptoRow.holds Try.pinned (OpenSpec.upto fnExactUseCountSpec)

/-- 'laws.FnExactLeOk', WHERE WHAT IT READS IS OF BULK AT MOST 1048576: true; the input reads as it did. -/
def fnExactLeOkUptoRow : OpenClaim := { program := "ytlfmlhoajobafaa", sum := "67998e4321ab57fcba7399a92f2e14da8a00db71c67cdb70602505998ff191ff", func := "loop.example/g03311/laws.FnExactLeOk", spec := "fnExactLeOk", apart := false, narrowed := true }
def FnExactLeOkUptoSaid : Prop := fnExactLeOkUptoRow.holds Try.pinned (OpenSpec.upto fnExactLeOkSpec)

/-- 'laws.FnExactLeOutput', WHERE WHAT IT READS IS OF BULK AT MOST 1048576: true; the input reads as it did. -/
def fnExactLeOutputUptoRow : OpenClaim := { program := "ytlfmlhoajobafaa", sum := "67998e4321ab57fcba7399a92f2e14da8a00db71c67cdb70602505998ff191ff", func := "loop.example/g03311/laws.FnExactLeOutput", spec := "fnExactLeOutput", apart := false, narrowed := true }
def FnExactLeOutputUptoSaid : Prop := fnExactLeOutputUptoRow.holds Try.pinned (OpenSpec.upto fnExactLeOutputSpec)

/-- 'laws.FnExactLeInputs', WHERE WHAT IT READS IS OF BULK AT MOST 1048576: true; the input reads as it did. -/
def fnExactLeInputsUptoRow : OpenClaim := { program := "ytlfmlhoajobafaa", sum := "67998e4321ab57fcba7399a92f2e14da8a00db71c67cdb70602505998ff191ff", func := "loop.example/g03311/laws.FnExactLeInputs", spec := "fnExactLeInputs", apart := false, narrowed := true }
def FnExactLeInputsUptoSaid : Prop := fnExactLeInputsUptoRow.holds Try.pinned (OpenSpec.upto fnExactLeInputsSpec)

/-- 'laws.FnExactOutNodes', WHERE WHAT IT READS IS OF BULK AT MOST 1048576: true; the input reads as it did. -/
def fnExactOutNodesUptoRow : OpenClaim := { program := "ytlfmlhoajobafaa", sum := "67998e4321ab57fcba7399a92f2e14da8a00db71c67cdb70602505998ff191ff", func := "loop.example/g03311/laws.FnExactOutNodes", spec := "fnExactOutNodes", apart := false, narrowed := true }
def FnExactOutNodesUptoSaid : Prop := fnExactOutNodesUptoRow.holds Try.pinned (OpenSpec.upto fnExactOutNodesSpec)

/-- 'laws.FnExactBlockOk', WHERE WHAT IT READS IS OF BULK AT MOST 1048576: true; the input reads as it did. -/
def fnExactBlockOkUptoRow : OpenClaim := { program := "ytlfmlhoajobafaa", sum := "67998e4321ab57fcba7399a92f2e14da8a00db71c67cdb70602505998ff191ff", func := "loop.example/g03311/laws.FnExactBlockOk", spec := "fnExactBlockOk", apart := false, narrowed := true }
def FnExactBlockOkUptoSaid : Prop := fnExactBlockOkUptoRow.holds Try.pinned (OpenSpec.upto fnExactBlockOkSpec)

/-- 'laws.FnExactPinNodes', WHERE WHAT IT READS IS OF BULK AT MOST 1048576: true; the input reads as it did. -/
def fnExactPinNodesUptoRow : OpenClaim := { program := "ytlfmlhoajobafaa", sum := "67998e4321ab57fcba7399a92f2e14da8a00db71c67cdb70602505998ff191ff", func := "loop.example/g03311/laws.FnExactPinNodes", spec := "fnExactPinNodes", apart := false, narrowed := true }
def FnExactPinNodesUptoSaid : Prop := fnExactPinNodesUptoRow.holds Try.pinned (OpenSpec.upto fnExactPinNodesSpec)

/-- 'laws.FnNearest', WHERE WHAT IT READS IS OF BULK AT MOST 1048576: true; the input reads as it did. -/
def fnNearestUptoRow : OpenClaim := { program := "ytlfmlhoajobafaa", sum := "67998e4321ab57fcba7399a92f2e14da8a00db71c67cdb70602505998ff191ff", func := "loop.example/g03311/laws.FnNearest", spec := "fnNearest", apart := false, narrowed := true }
def FnNearestUptoSaid : Prop := fnNearestUptoRow.holds Try.pinned (OpenSpec.upto fnNearestSpec)

/-- 'laws.FnLongest', WHERE WHAT IT READS IS OF BULK AT MOST 1048576: true; the input reads as it did. -/
def fnLongestUptoRow : OpenClaim := { program := "ytlfmlhoajobafaa", sum := "67998e4321ab57fcba7399a92f2e14da8a00db71c67cdb70602505998ff191ff", func := "loop.example/g03311/laws.FnLongest", spec := "fnLongest", apart := false, narrowed := true }
def FnLongestUptoSaid : Prop := fnLongestUptoRow.holds Try.pinned (OpenSpec.upto fnLongestSpec)

end Rows
end Go.Proofs.Ytlfmlhoajobafaa
