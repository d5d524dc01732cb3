/-
  No cell of these rows narrows 'for every input' (looked for: loops, veiled, ifaces, maps, wideKeys, modest, calm, conditions, laid).
  DERIVED. THE GIVEN ROWS OF THIS SEAT. 11 by the template 'for every input the law returns true; each argument reads behind the call as it read before'; 0 by the template 'total and deterministic' (their statements: YtamaghlnjchhbaaTotals.lean).
  GIVEN WITH THE SEED: the statements are not yours to turn. If you find one false, say at which input.
  Laid BY PROGRAM, IN A SANDBOX (cutbox-rows.mjs): the forced cells as the released guide's own fill.sh prints them over the translation b1226aebbdc33c95… (all of the seat's roots in one cut). By AI agents, Wed Nov 11 2026. No macro, syntax, notation, axiom, sorry.
-/
import Derived.Test.YtamaghlnjchhbaaChecked
import GoSem.Claim
import GoSem.ClaimJoined
import GoSem.ClaimMapViews
import Derived.JoinedTies
import Derived.KernelRfl
namespace Go.Proofs.Ytamaghlnjchhbaa
/- THE CELL 'sum', in the pinned program and in every row, IS THE sha256 OF THE DUMP (.gsa) THAT YtamaghlnjchhbaaProg.lean LOADS. Nothing in Lean hashes anything: it is a label: what it is worth is what the hold of that sum in a sandbox is worth. -/
noncomputable def Try.pinned : Pinned := { name := "ytamaghlnjchhbaa", sum := "b1226aebbdc33c953d52877f85915bcb612b79c9c5a224a4d6ed3efc109839f4", checked := Try.checked }
namespace Rows
def none {H : Type} : Left H := { results := [], args := [] }

/-- 'laws.FnExactPathTo': WHATEVER THE INPUT: true; the input reads as it did. -/
def fnExactPathToSpec : ChangeSpec := { name := "fnExactPathTo", fn := fun _ => fun
  | [d1, d2] => { results := [.lit (.bool true)], args := [d1, d2] }
  | _ => none }
def fnExactPathToRow : OpenClaim := { program := "ytamaghlnjchhbaa", sum := "b1226aebbdc33c953d52877f85915bcb612b79c9c5a224a4d6ed3efc109839f4", func := "loop.example/g03311/laws.FnExactPathTo", spec := "fnExactPathTo", apart := false }
def FnExactPathToSaid : Prop := fnExactPathToRow.holds Try.pinned (OpenSpec.ofChange fnExactPathToSpec)

/-- ITS FALSE NEIGHBOUR: 'it returns false'. Refute it at one input. -/
def fnExactPathToWrong : ChangeSpec := { name := "fnExactPathTo", fn := fun _ => fun
  | [d1, d2] => { results := [.lit (.bool false)], args := [d1, d2] }
  | _ => none }
def FnExactPathToWrongFalsely : Prop := fnExactPathToRow.holds Try.pinned (OpenSpec.ofChange fnExactPathToWrong)

/-- 'laws.FnExactPlaceOk': WHATEVER THE INPUT: true; the input reads as it did. -/
def fnExactPlaceOkSpec : ChangeSpec := { name := "fnExactPlaceOk", fn := fun _ => fun
  | [d1, d2, d3] => { results := [.lit (.bool true)], args := [d1, d2, d3] }
  | _ => none }
def fnExactPlaceOkRow : OpenClaim := { program := "ytamaghlnjchhbaa", sum := "b1226aebbdc33c953d52877f85915bcb612b79c9c5a224a4d6ed3efc109839f4", func := "loop.example/g03311/laws.FnExactPlaceOk", spec := "fnExactPlaceOk", apart := false }
def FnExactPlaceOkSaid : Prop := fnExactPlaceOkRow.holds Try.pinned (OpenSpec.ofChange fnExactPlaceOkSpec)

/-- ITS FALSE NEIGHBOUR: 'it returns false'. Refute it at one input. -/
def fnExactPlaceOkWrong : ChangeSpec := { name := "fnExactPlaceOk", fn := fun _ => fun
  | [d1, d2, d3] => { results := [.lit (.bool false)], args := [d1, d2, d3] }
  | _ => none }
def FnExactPlaceOkWrongFalsely : Prop := fnExactPlaceOkRow.holds Try.pinned (OpenSpec.ofChange fnExactPlaceOkWrong)

/-- 'laws.FnExactNearestFree': WHATEVER THE INPUT: true; the input reads as it did. -/
def fnExactNearestFreeSpec : ChangeSpec := { name := "fnExactNearestFree", fn := fun _ => fun
  | [d1, d2, d3, d4, d5] => { results := [.lit (.bool true)], args := [d1, d2, d3, d4, d5] }
  | _ => none }
def fnExactNearestFreeRow : OpenClaim := { program := "ytamaghlnjchhbaa", sum := "b1226aebbdc33c953d52877f85915bcb612b79c9c5a224a4d6ed3efc109839f4", func := "loop.example/g03311/laws.FnExactNearestFree", spec := "fnExactNearestFree", apart := false }
def FnExactNearestFreeSaid : Prop := fnExactNearestFreeRow.holds Try.pinned (OpenSpec.ofChange fnExactNearestFreeSpec)

/-- ITS FALSE NEIGHBOUR: 'it returns false'. Refute it at one input. -/
def fnExactNearestFreeWrong : ChangeSpec := { name := "fnExactNearestFree", fn := fun _ => fun
  | [d1, d2, d3, d4, d5] => { results := [.lit (.bool false)], args := [d1, d2, d3, d4, d5] }
  | _ => none }
def FnExactNearestFreeWrongFalsely : Prop := fnExactNearestFreeRow.holds Try.pinned (OpenSpec.ofChange fnExactNearestFreeWrong)

/-- 'laws.FnExactConnsOk': WHATEVER THE INPUT: true; the input reads as it did. -/
def fnExactConnsOkSpec : ChangeSpec := { name := "fnExactConnsOk", fn := fun _ => fun
  | [d1, d2] => { results := [.lit (.bool true)], args := [d1, d2] }
  | _ => none }
def fnExactConnsOkRow : OpenClaim := { program := "ytamaghlnjchhbaa", sum := "b1226aebbdc33c953d52877f85915bcb612b79c9c5a224a4d6ed3efc109839f4", func := "loop.example/g03311/laws.FnExactConnsOk", spec := "fnExactConnsOk", apart := false }
def FnExactConnsOkSaid : Prop := fnExactConnsOkRow.holds Try.pinned (OpenSpec.ofChange fnExactConnsOkSpec)

/-- ITS FALSE NEIGHBOUR: 'it returns false'. Refute it at one input. -/
def fnExactConnsOkWrong : ChangeSpec := { name := "fnExactConnsOk", fn := fun _ => fun
  | [d1, d2] => { results := [.lit (.bool false)], args := [d1, d2] }
  | _ => none }
def FnExactConnsOkWrongFalsely : Prop := fnExactConnsOkRow.holds Try.pinned (OpenSpec.ofChange fnExactConnsOkWrong)

/-- 'laws.FnExactConnSpan': WHATEVER THE INPUT: true; the input reads as it did. -/
def fnExactConnSpanSpec : ChangeSpec := { name := "fnExactConnSpan", fn := fun _ => fun
  | [d1, d2, d3] => { results := [.lit (.bool true)], args := [d1, d2, d3] }
  | _ => none }
def fnExactConnSpanRow : OpenClaim := { program := "ytamaghlnjchhbaa", sum := "b1226aebbdc33c953d52877f85915bcb612b79c9c5a224a4d6ed3efc109839f4", func := "loop.example/g03311/laws.FnExactConnSpan", spec := "fnExactConnSpan", apart := false }
def FnExactConnSpanSaid : Prop := fnExactConnSpanRow.holds Try.pinned (OpenSpec.ofChange fnExactConnSpanSpec)

/-- ITS FALSE NEIGHBOUR: 'it returns false'. Refute it at one input. -/
def fnExactConnSpanWrong : ChangeSpec := { name := "fnExactConnSpan", fn := fun _ => fun
  | [d1, d2, d3] => { results := [.lit (.bool false)], args := [d1, d2, d3] }
  | _ => none }
def FnExactConnSpanWrongFalsely : Prop := fnExactConnSpanRow.holds Try.pinned (OpenSpec.ofChange fnExactConnSpanWrong)

/-- 'laws.FnExactTryMove': WHATEVER THE INPUT: true; the input reads as it did. -/
def fnExactTryMoveSpec : ChangeSpec := { name := "fnExactTryMove", fn := fun _ => fun
  | [d1, d2, d3, d4, d5] => { results := [.lit (.bool true)], args := [d1, d2, d3, d4, d5] }
  | _ => none }
def fnExactTryMoveRow : OpenClaim := { program := "ytamaghlnjchhbaa", sum := "b1226aebbdc33c953d52877f85915bcb612b79c9c5a224a4d6ed3efc109839f4", func := "loop.example/g03311/laws.FnExactTryMove", spec := "fnExactTryMove", apart := false }
def FnExactTryMoveSaid : Prop := fnExactTryMoveRow.holds Try.pinned (OpenSpec.ofChange fnExactTryMoveSpec)

/-- ITS FALSE NEIGHBOUR: 'it returns false'. Refute it at one input. -/
def fnExactTryMoveWrong : ChangeSpec := { name := "fnExactTryMove", fn := fun _ => fun
  | [d1, d2, d3, d4, d5] => { results := [.lit (.bool false)], args := [d1, d2, d3, d4, d5] }
  | _ => none }
def FnExactTryMoveWrongFalsely : Prop := fnExactTryMoveRow.holds Try.pinned (OpenSpec.ofChange fnExactTryMoveWrong)

/-- 'laws.FnNearest': WHATEVER THE INPUT: true; the input reads as it did. -/
def fnNearestSpec : ChangeSpec := { name := "fnNearest", fn := fun _ => fun
  | [d] => { results := [.lit (.bool true)], args := [d] }
  | _ => none }
def fnNearestRow : OpenClaim := { program := "ytamaghlnjchhbaa", sum := "b1226aebbdc33c953d52877f85915bcb612b79c9c5a224a4d6ed3efc109839f4", func := "loop.example/g03311/laws.FnNearest", spec := "fnNearest", apart := false }
def FnNearestSaid : Prop := fnNearestRow.holds Try.pinned (OpenSpec.ofChange fnNearestSpec)

/-- ITS FALSE NEIGHBOUR: 'it returns false'. Refute it at one input. -/
def fnNearestWrong : ChangeSpec := { name := "fnNearest", fn := fun _ => fun
  | [d] => { results := [.lit (.bool false)], args := [d] }
  | _ => none }
def FnNearestWrongFalsely : Prop := fnNearestRow.holds Try.pinned (OpenSpec.ofChange fnNearestWrong)

/-- 'laws.FnExactPlaceCost': WHATEVER THE INPUT: true; the input reads as it did. -/
def fnExactPlaceCostSpec : ChangeSpec := { name := "fnExactPlaceCost", fn := fun _ => fun
  | [d1, d2, d3] => { results := [.lit (.bool true)], args := [d1, d2, d3] }
  | _ => none }
def fnExactPlaceCostRow : OpenClaim := { program := "ytamaghlnjchhbaa", sum := "b1226aebbdc33c953d52877f85915bcb612b79c9c5a224a4d6ed3efc109839f4", func := "loop.example/g03311/laws.FnExactPlaceCost", spec := "fnExactPlaceCost", apart := false }
def FnExactPlaceCostSaid : Prop := fnExactPlaceCostRow.holds Try.pinned (OpenSpec.ofChange fnExactPlaceCostSpec)

/-- ITS FALSE NEIGHBOUR: 'it returns false'. Refute it at one input. -/
def fnExactPlaceCostWrong : ChangeSpec := { name := "fnExactPlaceCost", fn := fun _ => fun
  | [d1, d2, d3] => { results := [.lit (.bool false)], args := [d1, d2, d3] }
  | _ => none }
def FnExactPlaceCostWrongFalsely : Prop := fnExactPlaceCostRow.holds Try.pinned (OpenSpec.ofChange fnExactPlaceCostWrong)

/-- 'laws.FnExactAverages': WHATEVER THE INPUT: true; the input reads as it did. -/
def fnExactAveragesSpec : ChangeSpec := { name := "fnExactAverages", fn := fun _ => fun
  | [d1, d2, d3, d4] => { results := [.lit (.bool true)], args := [d1, d2, d3, d4] }
  | _ => none }
def fnExactAveragesRow : OpenClaim := { program := "ytamaghlnjchhbaa", sum := "b1226aebbdc33c953d52877f85915bcb612b79c9c5a224a4d6ed3efc109839f4", func := "loop.example/g03311/laws.FnExactAverages", spec := "fnExactAverages", apart := false }
def FnExactAveragesSaid : Prop := fnExactAveragesRow.holds Try.pinned (OpenSpec.ofChange fnExactAveragesSpec)

/-- ITS FALSE NEIGHBOUR: 'it returns false'. Refute it at one input. -/
def fnExactAveragesWrong : ChangeSpec := { name := "fnExactAverages", fn := fun _ => fun
  | [d1, d2, d3, d4] => { results := [.lit (.bool false)], args := [d1, d2, d3, d4] }
  | _ => none }
def FnExactAveragesWrongFalsely : Prop := fnExactAveragesRow.holds Try.pinned (OpenSpec.ofChange fnExactAveragesWrong)

/-- 'laws.FnExactAnneal': WHATEVER THE INPUT: true; the input reads as it did. -/
def fnExactAnnealSpec : ChangeSpec := { name := "fnExactAnneal", fn := fun _ => fun
  | [d1, d2, d3, d4, d5, d6] => { results := [.lit (.bool true)], args := [d1, d2, d3, d4, d5, d6] }
  | _ => none }
def fnExactAnnealRow : OpenClaim := { program := "ytamaghlnjchhbaa", sum := "b1226aebbdc33c953d52877f85915bcb612b79c9c5a224a4d6ed3efc109839f4", func := "loop.example/g03311/laws.FnExactAnneal", spec := "fnExactAnneal", apart := false }
def FnExactAnnealSaid : Prop := fnExactAnnealRow.holds Try.pinned (OpenSpec.ofChange fnExactAnnealSpec)

/-- ITS FALSE NEIGHBOUR: 'it returns false'. Refute it at one input. -/
def fnExactAnnealWrong : ChangeSpec := { name := "fnExactAnneal", fn := fun _ => fun
  | [d1, d2, d3, d4, d5, d6] => { results := [.lit (.bool false)], args := [d1, d2, d3, d4, d5, d6] }
  | _ => none }
def FnExactAnnealWrongFalsely : Prop := fnExactAnnealRow.holds Try.pinned (OpenSpec.ofChange fnExactAnnealWrong)

/-- 'laws.FnExactInitialPlace': WHATEVER THE INPUT: true; the input reads as it did. -/
def fnExactInitialPlaceSpec : ChangeSpec := { name := "fnExactInitialPlace", fn := fun _ => fun
  | [d1, d2, d3] => { results := [.lit (.bool true)], args := [d1, d2, d3] }
  | _ => none }
def fnExactInitialPlaceRow : OpenClaim := { program := "ytamaghlnjchhbaa", sum := "b1226aebbdc33c953d52877f85915bcb612b79c9c5a224a4d6ed3efc109839f4", func := "loop.example/g03311/laws.FnExactInitialPlace", spec := "fnExactInitialPlace", apart := false }
def FnExactInitialPlaceSaid : Prop := fnExactInitialPlaceRow.holds Try.pinned (OpenSpec.ofChange fnExactInitialPlaceSpec)

/-- ITS FALSE NEIGHBOUR: 'it returns false'. Refute it at one input. -/
def fnExactInitialPlaceWrong : ChangeSpec := { name := "fnExactInitialPlace", fn := fun _ => fun
  | [d1, d2, d3] => { results := [.lit (.bool false)], args := [d1, d2, d3] }
  | _ => none }
def FnExactInitialPlaceWrongFalsely : Prop := fnExactInitialPlaceRow.holds Try.pinned (OpenSpec.ofChange fnExactInitialPlaceWrong)

/- THE SECOND FORM. 'bulk': how many values and letters a reading holds, each counted each time it is reached (what is shared counts as often as it is met; a slice's spare places count too). A statement '..UptoSaid' is the law's where the arguments, and the package variables that the reading takes, are together of bulk at most 1048576: NARROWER than '..Said'. Prove '..Said' where nothing that the law and all that it calls make is longer than what came in: it says more and counts as full. Else prove '..UptoSaid'. A law counts once. -/
mutual
def uptoBulk {H : Type} : DataW H → Nat
  | .lit (.string bytes) => bytes.length + 1
  | .lit _ => 1
  | .nil => 1
  | .ptr d => uptoBulk d + 1
  | .slice elems spare => uptoBulkAll elems + uptoBulkAll spare + 1
  | .agg parts => uptoBulkAll parts + 1
  | .iface _ d => uptoBulk d + 1
  | .map entries => uptoBulkEntries entries + 1
  | .held _ => 1
def uptoBulkAll {H : Type} : List (DataW H) → Nat
  | [] => 0
  | d :: r => uptoBulk d + uptoBulkAll r
def uptoBulkEntries {H : Type} : List (Lit × DataW H) → Nat
  | [] => 0
  | x :: r => uptoBulkEntry x + uptoBulkEntries r
def uptoBulkEntry {H : Type} : Lit × DataW H → Nat
  | (.string bytes, d) => bytes.length + uptoBulk d + 1
  | (_, d) => uptoBulk d + 1
 end
def uptoSmall : (H : Type) → List (DataW H) → Bool := fun _ ds => decide (uptoBulkAll ds ≤ 1048576)
def OpenSpec.upto (s : _root_.Go.ChangeSpec) : _root_.Go.OpenSpec := { _root_.Go.OpenSpec.ofChange s with cond := some uptoSmall }

/-- 'laws.FnExactPathTo', WHERE WHAT IT READS IS OF BULK AT MOST 1048576: true; the input reads as it did. -/
def fnExactPathToUptoRow : OpenClaim := { program := "ytamaghlnjchhbaa", sum := "b1226aebbdc33c953d52877f85915bcb612b79c9c5a224a4d6ed3efc109839f4", func := "loop.example/g03311/laws.FnExactPathTo", spec := "fnExactPathTo", apart := false, narrowed := true }
def FnExactPathToUptoSaid : Prop := fnExactPathToUptoRow.holds Try.pinned (OpenSpec.upto fnExactPathToSpec)

/-- 'laws.FnExactPlaceOk', WHERE WHAT IT READS IS OF BULK AT MOST 1048576: true; the input reads as it did. -/
def fnExactPlaceOkUptoRow : OpenClaim := { program := "ytamaghlnjchhbaa", sum := "b1226aebbdc33c953d52877f85915bcb612b79c9c5a224a4d6ed3efc109839f4", func := "loop.example/g03311/laws.FnExactPlaceOk", spec := "fnExactPlaceOk", apart := false, narrowed := true }
def FnExactPlaceOkUptoSaid : Prop := fnExactPlaceOkUptoRow.holds Try.pinned (OpenSpec.upto fnExactPlaceOkSpec)

/-- 'laws.FnExactNearestFree', WHERE WHAT IT READS IS OF BULK AT MOST 1048576: true; the input reads as it did. -/
def fnExactNearestFreeUptoRow : OpenClaim := { program := "ytamaghlnjchhbaa", sum := "b1226aebbdc33c953d52877f85915bcb612b79c9c5a224a4d6ed3efc109839f4", func := "loop.example/g03311/laws.FnExactNearestFree", spec := "fnExactNearestFree", apart := false, narrowed := true }
def FnExactNearestFreeUptoSaid : Prop := fnExactNearestFreeUptoRow.holds Try.pinned (OpenSpec.upto fnExactNearestFreeSpec)

/-- 'laws.FnExactConnsOk', WHERE WHAT IT READS IS OF BULK AT MOST 1048576: true; the input reads as it did. -/
def fnExactConnsOkUptoRow : OpenClaim := { program := "ytamaghlnjchhbaa", sum := "b1226aebbdc33c953d52877f85915bcb612b79c9c5a224a4d6ed3efc109839f4", func := "loop.example/g03311/laws.FnExactConnsOk", spec := "fnExactConnsOk", apart := false, narrowed := true }
def FnExactConnsOkUptoSaid : Prop := fnExactConnsOkUptoRow.holds Try.pinned (OpenSpec.upto fnExactConnsOkSpec)

/-- 'laws.FnExactConnSpan', WHERE WHAT IT READS IS OF BULK AT MOST 1048576: true; the input reads as it did. -/
def fnExactConnSpanUptoRow : OpenClaim := { program := "ytamaghlnjchhbaa", sum := "b1226aebbdc33c953d52877f85915bcb612b79c9c5a224a4d6ed3efc109839f4", func := "loop.example/g03311/laws.FnExactConnSpan", spec := "fnExactConnSpan", apart := false, narrowed := true }
def FnExactConnSpanUptoSaid : Prop := fnExactConnSpanUptoRow.holds Try.pinned (OpenSpec.upto fnExactConnSpanSpec)

/-- 'laws.FnExactTryMove', WHERE WHAT IT READS IS OF BULK AT MOST 1048576: true; the input reads as it did. -/
def fnExactTryMoveUptoRow : OpenClaim := { program := "ytamaghlnjchhbaa", sum := "b1226aebbdc33c953d52877f85915bcb612b79c9c5a224a4d6ed3efc109839f4", func := "loop.example/g03311/laws.FnExactTryMove", spec := "fnExactTryMove", apart := false, narrowed := true }
def FnExactTryMoveUptoSaid : Prop := fnExactTryMoveUptoRow.holds Try.pinned (OpenSpec.upto fnExactTryMoveSpec)

/-- 'laws.FnNearest', WHERE WHAT IT READS IS OF BULK AT MOST 1048576: true; the input reads as it did. -/
def fnNearestUptoRow : OpenClaim := { program := "ytamaghlnjchhbaa", sum := "b1226aebbdc33c953d52877f85915bcb612b79c9c5a224a4d6ed3efc109839f4", func := "loop.example/g03311/laws.FnNearest", spec := "fnNearest", apart := false, narrowed := true }
def FnNearestUptoSaid : Prop := fnNearestUptoRow.holds Try.pinned (OpenSpec.upto fnNearestSpec)

/-- 'laws.FnExactPlaceCost', WHERE WHAT IT READS IS OF BULK AT MOST 1048576: true; the input reads as it did. -/
def fnExactPlaceCostUptoRow : OpenClaim := { program := "ytamaghlnjchhbaa", sum := "b1226aebbdc33c953d52877f85915bcb612b79c9c5a224a4d6ed3efc109839f4", func := "loop.example/g03311/laws.FnExactPlaceCost", spec := "fnExactPlaceCost", apart := false, narrowed := true }
def FnExactPlaceCostUptoSaid : Prop := fnExactPlaceCostUptoRow.holds Try.pinned (OpenSpec.upto fnExactPlaceCostSpec)

/-- 'laws.FnExactAverages', WHERE WHAT IT READS IS OF BULK AT MOST 1048576: true; the input reads as it did. -/
def fnExactAveragesUptoRow : OpenClaim := { program := "ytamaghlnjchhbaa", sum := "b1226aebbdc33c953d52877f85915bcb612b79c9c5a224a4d6ed3efc109839f4", func := "loop.example/g03311/laws.FnExactAverages", spec := "fnExactAverages", apart := false, narrowed := true }
def FnExactAveragesUptoSaid : Prop := fnExactAveragesUptoRow.holds Try.pinned (OpenSpec.upto fnExactAveragesSpec)

/-- 'laws.FnExactAnneal', WHERE WHAT IT READS IS OF BULK AT MOST 1048576: true; the input reads as it did. -/
def fnExactAnnealUptoRow : OpenClaim := { program := "ytamaghlnjchhbaa", sum := "b1226aebbdc33c953d52877f85915bcb612b79c9c5a224a4d6ed3efc109839f4", func := "loop.example/g03311/laws.FnExactAnneal", spec := "fnExactAnneal", apart := false, narrowed := true }
def FnExactAnnealUptoSaid : Prop := fnExactAnnealUptoRow.holds Try.pinned (OpenSpec.upto fnExactAnnealSpec)

/-- 'laws.FnExactInitialPlace', WHERE WHAT IT READS IS OF BULK AT MOST 1048576: true; the input reads as it did. -/
def fnExactInitialPlaceUptoRow : OpenClaim := { program := "ytamaghlnjchhbaa", sum := "b1226aebbdc33c953d52877f85915bcb612b79c9c5a224a4d6ed3efc109839f4", func := "loop.example/g03311/laws.FnExactInitialPlace", spec := "fnExactInitialPlace", apart := false, narrowed := true }
def FnExactInitialPlaceUptoSaid : Prop := fnExactInitialPlaceUptoRow.holds Try.pinned (OpenSpec.upto fnExactInitialPlaceSpec)

end Rows
end Go.Proofs.Ytamaghlnjchhbaa
