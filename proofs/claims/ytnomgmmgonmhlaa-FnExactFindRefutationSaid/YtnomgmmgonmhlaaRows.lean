/-
  No cell of these rows narrows 'for every input' (looked for: loops, veiled, ifaces, maps, wideKeys, modest, calm, conditions, laid).
  DERIVED. THE GIVEN ROWS OF THIS SEAT. 12 by the template 'for every input the law returns true; each argument reads behind the call as it read before'; 0 by the template 'total and deterministic' (their statements: YtnomgmmgonmhlaaTotals.lean).
  GIVEN WITH THE SEED: the statements are not yours to turn. If you find one false, say at which input.
  Laid BY PROGRAM, IN A SANDBOX (cutbox-rows.mjs): the forced cells as the released guide's own fill.sh prints them over the translation 1e9c95663050d566… (all of the seat's roots in one cut). By AI agents, Wed Nov 11 2026. No macro, syntax, notation, axiom, sorry.
-/
import Derived.Test.YtnomgmmgonmhlaaChecked
import GoSem.Claim
import GoSem.ClaimJoined
import GoSem.ClaimMapViews
import Derived.JoinedTies
import Derived.KernelRfl
namespace Go.Proofs.Ytnomgmmgonmhlaa
/- THE CELL 'sum', in the pinned program and in every row, IS THE sha256 OF THE DUMP (.gsa) THAT YtnomgmmgonmhlaaProg.lean LOADS. Nothing in Lean hashes anything: it is a label: what it is worth is what the hold of that sum in a sandbox is worth. -/
noncomputable def Try.pinned : Pinned := { name := "ytnomgmmgonmhlaa", sum := "1e9c95663050d56631b9659dcc347d47ff3f8a8b853689285d54e7359bfc4d25", checked := Try.checked }
namespace Rows
def none {H : Type} : Left H := { results := [], args := [] }

/-- 'laws.FnExactSources': WHATEVER THE INPUT: true; the input reads as it did. -/
def fnExactSourcesSpec : ChangeSpec := { name := "fnExactSources", fn := fun _ => fun
  | [d1, d2] => { results := [.lit (.bool true)], args := [d1, d2] }
  | _ => none }
def fnExactSourcesRow : OpenClaim := { program := "ytnomgmmgonmhlaa", sum := "1e9c95663050d56631b9659dcc347d47ff3f8a8b853689285d54e7359bfc4d25", func := "loop.example/g03311/laws.FnExactSources", spec := "fnExactSources", apart := false }
def FnExactSourcesSaid : Prop := fnExactSourcesRow.holds Try.pinned (OpenSpec.ofChange fnExactSourcesSpec)

/-- ITS FALSE NEIGHBOUR: 'it returns false'. Refute it at one input. -/
def fnExactSourcesWrong : ChangeSpec := { name := "fnExactSources", fn := fun _ => fun
  | [d1, d2] => { results := [.lit (.bool false)], args := [d1, d2] }
  | _ => none }
def FnExactSourcesWrongFalsely : Prop := fnExactSourcesRow.holds Try.pinned (OpenSpec.ofChange fnExactSourcesWrong)

/-- 'laws.FnExactPathCost': WHATEVER THE INPUT: true; the input reads as it did. -/
def fnExactPathCostSpec : ChangeSpec := { name := "fnExactPathCost", fn := fun _ => fun
  | [d1, d2, d3] => { results := [.lit (.bool true)], args := [d1, d2, d3] }
  | _ => none }
def fnExactPathCostRow : OpenClaim := { program := "ytnomgmmgonmhlaa", sum := "1e9c95663050d56631b9659dcc347d47ff3f8a8b853689285d54e7359bfc4d25", func := "loop.example/g03311/laws.FnExactPathCost", spec := "fnExactPathCost", apart := false }
def FnExactPathCostSaid : Prop := fnExactPathCostRow.holds Try.pinned (OpenSpec.ofChange fnExactPathCostSpec)

/-- ITS FALSE NEIGHBOUR: 'it returns false'. Refute it at one input. -/
def fnExactPathCostWrong : ChangeSpec := { name := "fnExactPathCost", fn := fun _ => fun
  | [d1, d2, d3] => { results := [.lit (.bool false)], args := [d1, d2, d3] }
  | _ => none }
def FnExactPathCostWrongFalsely : Prop := fnExactPathCostRow.holds Try.pinned (OpenSpec.ofChange fnExactPathCostWrong)

/-- 'laws.FnExactRouteOk': WHATEVER THE INPUT: true; the input reads as it did. -/
def fnExactRouteOkSpec : ChangeSpec := { name := "fnExactRouteOk", fn := fun _ => fun
  | [d1, d2, d3, d4] => { results := [.lit (.bool true)], args := [d1, d2, d3, d4] }
  | _ => none }
def fnExactRouteOkRow : OpenClaim := { program := "ytnomgmmgonmhlaa", sum := "1e9c95663050d56631b9659dcc347d47ff3f8a8b853689285d54e7359bfc4d25", func := "loop.example/g03311/laws.FnExactRouteOk", spec := "fnExactRouteOk", apart := false }
def FnExactRouteOkSaid : Prop := fnExactRouteOkRow.holds Try.pinned (OpenSpec.ofChange fnExactRouteOkSpec)

/-- ITS FALSE NEIGHBOUR: 'it returns false'. Refute it at one input. -/
def fnExactRouteOkWrong : ChangeSpec := { name := "fnExactRouteOk", fn := fun _ => fun
  | [d1, d2, d3, d4] => { results := [.lit (.bool false)], args := [d1, d2, d3, d4] }
  | _ => none }
def FnExactRouteOkWrongFalsely : Prop := fnExactRouteOkRow.holds Try.pinned (OpenSpec.ofChange fnExactRouteOkWrong)

/-- 'laws.FnExactDistances': WHATEVER THE INPUT: true; the input reads as it did. -/
def fnExactDistancesSpec : ChangeSpec := { name := "fnExactDistances", fn := fun _ => fun
  | [d1, d2, d3] => { results := [.lit (.bool true)], args := [d1, d2, d3] }
  | _ => none }
def fnExactDistancesRow : OpenClaim := { program := "ytnomgmmgonmhlaa", sum := "1e9c95663050d56631b9659dcc347d47ff3f8a8b853689285d54e7359bfc4d25", func := "loop.example/g03311/laws.FnExactDistances", spec := "fnExactDistances", apart := false }
def FnExactDistancesSaid : Prop := fnExactDistancesRow.holds Try.pinned (OpenSpec.ofChange fnExactDistancesSpec)

/-- ITS FALSE NEIGHBOUR: 'it returns false'. Refute it at one input. -/
def fnExactDistancesWrong : ChangeSpec := { name := "fnExactDistances", fn := fun _ => fun
  | [d1, d2, d3] => { results := [.lit (.bool false)], args := [d1, d2, d3] }
  | _ => none }
def FnExactDistancesWrongFalsely : Prop := fnExactDistancesRow.holds Try.pinned (OpenSpec.ofChange fnExactDistancesWrong)

/-- 'laws.FnExactCheapestPath': WHATEVER THE INPUT: true; the input reads as it did. -/
def fnExactCheapestPathSpec : ChangeSpec := { name := "fnExactCheapestPath", fn := fun _ => fun
  | [d1, d2, d3, d4] => { results := [.lit (.bool true)], args := [d1, d2, d3, d4] }
  | _ => none }
def fnExactCheapestPathRow : OpenClaim := { program := "ytnomgmmgonmhlaa", sum := "1e9c95663050d56631b9659dcc347d47ff3f8a8b853689285d54e7359bfc4d25", func := "loop.example/g03311/laws.FnExactCheapestPath", spec := "fnExactCheapestPath", apart := false }
def FnExactCheapestPathSaid : Prop := fnExactCheapestPathRow.holds Try.pinned (OpenSpec.ofChange fnExactCheapestPathSpec)

/-- ITS FALSE NEIGHBOUR: 'it returns false'. Refute it at one input. -/
def fnExactCheapestPathWrong : ChangeSpec := { name := "fnExactCheapestPath", fn := fun _ => fun
  | [d1, d2, d3, d4] => { results := [.lit (.bool false)], args := [d1, d2, d3, d4] }
  | _ => none }
def FnExactCheapestPathWrongFalsely : Prop := fnExactCheapestPathRow.holds Try.pinned (OpenSpec.ofChange fnExactCheapestPathWrong)

/-- 'laws.FnExactGrowRoute': WHATEVER THE INPUT: true; the input reads as it did. -/
def fnExactGrowRouteSpec : ChangeSpec := { name := "fnExactGrowRoute", fn := fun _ => fun
  | [d1, d2, d3, d4] => { results := [.lit (.bool true)], args := [d1, d2, d3, d4] }
  | _ => none }
def fnExactGrowRouteRow : OpenClaim := { program := "ytnomgmmgonmhlaa", sum := "1e9c95663050d56631b9659dcc347d47ff3f8a8b853689285d54e7359bfc4d25", func := "loop.example/g03311/laws.FnExactGrowRoute", spec := "fnExactGrowRoute", apart := false }
def FnExactGrowRouteSaid : Prop := fnExactGrowRouteRow.holds Try.pinned (OpenSpec.ofChange fnExactGrowRouteSpec)

/-- ITS FALSE NEIGHBOUR: 'it returns false'. Refute it at one input. -/
def fnExactGrowRouteWrong : ChangeSpec := { name := "fnExactGrowRoute", fn := fun _ => fun
  | [d1, d2, d3, d4] => { results := [.lit (.bool false)], args := [d1, d2, d3, d4] }
  | _ => none }
def FnExactGrowRouteWrongFalsely : Prop := fnExactGrowRouteRow.holds Try.pinned (OpenSpec.ofChange fnExactGrowRouteWrong)

/-- 'laws.FnExactIsSeparated': WHATEVER THE INPUT: true; the input reads as it did. -/
def fnExactIsSeparatedSpec : ChangeSpec := { name := "fnExactIsSeparated", fn := fun _ => fun
  | [d1, d2, d3, d4] => { results := [.lit (.bool true)], args := [d1, d2, d3, d4] }
  | _ => none }
def fnExactIsSeparatedRow : OpenClaim := { program := "ytnomgmmgonmhlaa", sum := "1e9c95663050d56631b9659dcc347d47ff3f8a8b853689285d54e7359bfc4d25", func := "loop.example/g03311/laws.FnExactIsSeparated", spec := "fnExactIsSeparated", apart := false }
def FnExactIsSeparatedSaid : Prop := fnExactIsSeparatedRow.holds Try.pinned (OpenSpec.ofChange fnExactIsSeparatedSpec)

/-- ITS FALSE NEIGHBOUR: 'it returns false'. Refute it at one input. -/
def fnExactIsSeparatedWrong : ChangeSpec := { name := "fnExactIsSeparated", fn := fun _ => fun
  | [d1, d2, d3, d4] => { results := [.lit (.bool false)], args := [d1, d2, d3, d4] }
  | _ => none }
def FnExactIsSeparatedWrongFalsely : Prop := fnExactIsSeparatedRow.holds Try.pinned (OpenSpec.ofChange fnExactIsSeparatedWrong)

/-- 'laws.FnExactSeparatedCount': WHATEVER THE INPUT: true; the input reads as it did. -/
def fnExactSeparatedCountSpec : ChangeSpec := { name := "fnExactSeparatedCount", fn := fun _ => fun
  | [d1, d2, d3, d4] => { results := [.lit (.bool true)], args := [d1, d2, d3, d4] }
  | _ => none }
def fnExactSeparatedCountRow : OpenClaim := { program := "ytnomgmmgonmhlaa", sum := "1e9c95663050d56631b9659dcc347d47ff3f8a8b853689285d54e7359bfc4d25", func := "loop.example/g03311/laws.FnExactSeparatedCount", spec := "fnExactSeparatedCount", apart := false }
def FnExactSeparatedCountSaid : Prop := fnExactSeparatedCountRow.holds Try.pinned (OpenSpec.ofChange fnExactSeparatedCountSpec)

/-- ITS FALSE NEIGHBOUR: 'it returns false'. Refute it at one input. -/
def fnExactSeparatedCountWrong : ChangeSpec := { name := "fnExactSeparatedCount", fn := fun _ => fun
  | [d1, d2, d3, d4] => { results := [.lit (.bool false)], args := [d1, d2, d3, d4] }
  | _ => none }
def FnExactSeparatedCountWrongFalsely : Prop := fnExactSeparatedCountRow.holds Try.pinned (OpenSpec.ofChange fnExactSeparatedCountWrong)

/-- 'laws.FnExactCutRefutes': WHATEVER THE INPUT: true; the input reads as it did. -/
def fnExactCutRefutesSpec : ChangeSpec := { name := "fnExactCutRefutes", fn := fun _ => fun
  | [d1, d2, d3, d4] => { results := [.lit (.bool true)], args := [d1, d2, d3, d4] }
  | _ => none }
def fnExactCutRefutesRow : OpenClaim := { program := "ytnomgmmgonmhlaa", sum := "1e9c95663050d56631b9659dcc347d47ff3f8a8b853689285d54e7359bfc4d25", func := "loop.example/g03311/laws.FnExactCutRefutes", spec := "fnExactCutRefutes", apart := false }
def FnExactCutRefutesSaid : Prop := fnExactCutRefutesRow.holds Try.pinned (OpenSpec.ofChange fnExactCutRefutesSpec)

/-- ITS FALSE NEIGHBOUR: 'it returns false'. Refute it at one input. -/
def fnExactCutRefutesWrong : ChangeSpec := { name := "fnExactCutRefutes", fn := fun _ => fun
  | [d1, d2, d3, d4] => { results := [.lit (.bool false)], args := [d1, d2, d3, d4] }
  | _ => none }
def FnExactCutRefutesWrongFalsely : Prop := fnExactCutRefutesRow.holds Try.pinned (OpenSpec.ofChange fnExactCutRefutesWrong)

/-- 'laws.FnExactRoutesOk': WHATEVER THE INPUT: true; the input reads as it did. -/
def fnExactRoutesOkSpec : ChangeSpec := { name := "fnExactRoutesOk", fn := fun _ => fun
  | [d1, d2, d3, d4] => { results := [.lit (.bool true)], args := [d1, d2, d3, d4] }
  | _ => none }
def fnExactRoutesOkRow : OpenClaim := { program := "ytnomgmmgonmhlaa", sum := "1e9c95663050d56631b9659dcc347d47ff3f8a8b853689285d54e7359bfc4d25", func := "loop.example/g03311/laws.FnExactRoutesOk", spec := "fnExactRoutesOk", apart := false }
def FnExactRoutesOkSaid : Prop := fnExactRoutesOkRow.holds Try.pinned (OpenSpec.ofChange fnExactRoutesOkSpec)

/-- ITS FALSE NEIGHBOUR: 'it returns false'. Refute it at one input. -/
def fnExactRoutesOkWrong : ChangeSpec := { name := "fnExactRoutesOk", fn := fun _ => fun
  | [d1, d2, d3, d4] => { results := [.lit (.bool false)], args := [d1, d2, d3, d4] }
  | _ => none }
def FnExactRoutesOkWrongFalsely : Prop := fnExactRoutesOkRow.holds Try.pinned (OpenSpec.ofChange fnExactRoutesOkWrong)

/-- 'laws.FnExactFindRefutation': WHATEVER THE INPUT: true; the input reads as it did. -/
def fnExactFindRefutationSpec : ChangeSpec := { name := "fnExactFindRefutation", fn := fun _ => fun
  | [d1, d2, d3] => { results := [.lit (.bool true)], args := [d1, d2, d3] }
  | _ => none }
def fnExactFindRefutationRow : OpenClaim := { program := "ytnomgmmgonmhlaa", sum := "1e9c95663050d56631b9659dcc347d47ff3f8a8b853689285d54e7359bfc4d25", func := "loop.example/g03311/laws.FnExactFindRefutation", spec := "fnExactFindRefutation", unfollowed := true, recurses := true, apart := false }
def FnExactFindRefutationSaid : Prop := fnExactFindRefutationRow.holds Try.pinned (OpenSpec.ofChange fnExactFindRefutationSpec)

/-- ITS FALSE NEIGHBOUR: 'it returns false'. Refute it at one input. -/
def fnExactFindRefutationWrong : ChangeSpec := { name := "fnExactFindRefutation", fn := fun _ => fun
  | [d1, d2, d3] => { results := [.lit (.bool false)], args := [d1, d2, d3] }
  | _ => none }
def FnExactFindRefutationWrongFalsely : Prop := fnExactFindRefutationRow.holds Try.pinned (OpenSpec.ofChange fnExactFindRefutationWrong)

/-- 'laws.FnExactSetupSlacks': WHATEVER THE INPUT: true; the input reads as it did. -/
def fnExactSetupSlacksSpec : ChangeSpec := { name := "fnExactSetupSlacks", fn := fun _ => fun
  | [d1, d2, d3, d4, d5] => { results := [.lit (.bool true)], args := [d1, d2, d3, d4, d5] }
  | _ => none }
def fnExactSetupSlacksRow : OpenClaim := { program := "ytnomgmmgonmhlaa", sum := "1e9c95663050d56631b9659dcc347d47ff3f8a8b853689285d54e7359bfc4d25", func := "loop.example/g03311/laws.FnExactSetupSlacks", spec := "fnExactSetupSlacks", unfollowed := true, recurses := true, apart := false }
def FnExactSetupSlacksSaid : Prop := fnExactSetupSlacksRow.holds Try.pinned (OpenSpec.ofChange fnExactSetupSlacksSpec)

/-- ITS FALSE NEIGHBOUR: 'it returns false'. Refute it at one input. -/
def fnExactSetupSlacksWrong : ChangeSpec := { name := "fnExactSetupSlacks", fn := fun _ => fun
  | [d1, d2, d3, d4, d5] => { results := [.lit (.bool false)], args := [d1, d2, d3, d4, d5] }
  | _ => none }
def FnExactSetupSlacksWrongFalsely : Prop := fnExactSetupSlacksRow.holds Try.pinned (OpenSpec.ofChange fnExactSetupSlacksWrong)

/- THE SECOND FORM. 'bulk': how many values and letters a reading holds, each counted each time it is reached (what is shared counts as often as it is met; a slice's spare places count too). A statement '..UptoSaid' is the law's where the arguments, and the package variables that the reading takes, are together of bulk at most 1048576: NARROWER than '..Said'. Prove '..Said' where nothing that the law and all that it calls make is longer than what came in: it says more and counts as full. Else prove '..UptoSaid'. A law counts once. -/
mutual
def uptoBulk {H : Type} : DataW H → Nat
  | .lit (.string bytes) => bytes.length + 1
  | .lit _ => 1
  | .nil => 1
  | .ptr d => uptoBulk d + 1
  | .slice elems spare => uptoBulkAll elems + uptoBulkAll spare + 1
  | .agg parts => uptoBulkAll parts + 1
  | .iface _ d => uptoBulk d + 1
  | .map entries => uptoBulkEntries entries + 1
  | .held _ => 1
def uptoBulkAll {H : Type} : List (DataW H) → Nat
  | [] => 0
  | d :: r => uptoBulk d + uptoBulkAll r
def uptoBulkEntries {H : Type} : List (Lit × DataW H) → Nat
  | [] => 0
  | x :: r => uptoBulkEntry x + uptoBulkEntries r
def uptoBulkEntry {H : Type} : Lit × DataW H → Nat
  | (.string bytes, d) => bytes.length + uptoBulk d + 1
  | (_, d) => uptoBulk d + 1
 end
def uptoSmall : (H : Type) → List (DataW H) → Bool := fun _ ds => decide (uptoBulkAll ds ≤ 1048576)
def OpenSpec.upto (s : _root_.Go.ChangeSpec) : _root_.Go.OpenSpec := { _root_.Go.OpenSpec.ofChange s with cond := some uptoSmall }

/-- 'laws.FnExactSources', WHERE WHAT IT READS IS OF BULK AT MOST 1048576: true; the input reads as it did. -/
def fnExactSourcesUptoRow : OpenClaim := { program := "ytnomgmmgonmhlaa", sum := "1e9c95663050d56631b9659dcc347d47ff3f8a8b853689285d54e7359bfc4d25", func := "loop.example/g03311/laws.FnExactSources", spec := "fnExactSources", apart := false, narrowed := true }
def FnExactSourcesUptoSaid : Prop := fnExactSourcesUptoRow.holds Try.pinned (OpenSpec.upto fnExactSourcesSpec)

/-- 'laws.FnExactPathCost', WHERE WHAT IT READS IS OF BULK AT MOST 1048576: true; the input reads as it did. -/
def fnExactPathCostUptoRow : OpenClaim := { program := "ytnomgmmgonmhlaa", sum := "1e9c95663050d56631b9659dcc347d47ff3f8a8b853689285d54e7359bfc4d25", func := "loop.example/g03311/laws.FnExactPathCost", spec := "fnExactPathCost", apart := false, narrowed := true }
def FnExactPathCostUptoSaid : Prop := fnExactPathCostUptoRow.holds Try.pinned (OpenSpec.upto fnExactPathCostSpec)

/-- 'laws.FnExactRouteOk', WHERE WHAT IT READS IS OF BULK AT MOST 1048576: true; the input reads as it did. -/
def fnExactRouteOkUptoRow : OpenClaim := { program := "ytnomgmmgonmhlaa", sum := "1e9c95663050d56631b9659dcc347d47ff3f8a8b853689285d54e7359bfc4d25", func := "loop.example/g03311/laws.FnExactRouteOk", spec := "fnExactRouteOk", apart := false, narrowed := true }
def FnExactRouteOkUptoSaid : Prop := fnExactRouteOkUptoRow.holds Try.pinned (OpenSpec.upto fnExactRouteOkSpec)

/-- 'laws.FnExactDistances', WHERE WHAT IT READS IS OF BULK AT MOST 1048576: true; the input reads as it did. -/
def fnExactDistancesUptoRow : OpenClaim := { program := "ytnomgmmgonmhlaa", sum := "1e9c95663050d56631b9659dcc347d47ff3f8a8b853689285d54e7359bfc4d25", func := "loop.example/g03311/laws.FnExactDistances", spec := "fnExactDistances", apart := false, narrowed := true }
def FnExactDistancesUptoSaid : Prop := fnExactDistancesUptoRow.holds Try.pinned (OpenSpec.upto fnExactDistancesSpec)

/-- 'laws.FnExactCheapestPath', WHERE WHAT IT READS IS OF BULK AT MOST 1048576: true; the input reads as it did. -/
def fnExactCheapestPathUptoRow : OpenClaim := { program := "ytnomgmmgonmhlaa", sum := "1e9c95663050d56631b9659dcc347d47ff3f8a8b853689285d54e7359bfc4d25", func := "loop.example/g03311/laws.FnExactCheapestPath", spec := "fnExactCheapestPath", apart := false, narrowed := true }
def FnExactCheapestPathUptoSaid : Prop := fnExactCheapestPathUptoRow.holds Try.pinned (OpenSpec.upto fnExactCheapestPathSpec)

/-- 'laws.FnExactGrowRoute', WHERE WHAT IT READS IS OF BULK AT MOST 1048576: true; the input reads as it did. -/
def fnExactGrowRouteUptoRow : OpenClaim := { program := "ytnomgmmgonmhlaa", sum := "1e9c95663050d56631b9659dcc347d47ff3f8a8b853689285d54e7359bfc4d25", func := "loop.example/g03311/laws.FnExactGrowRoute", spec := "fnExactGrowRoute", apart := false, narrowed := true }
def FnExactGrowRouteUptoSaid : Prop := fnExactGrowRouteUptoRow.holds Try.pinned (OpenSpec.upto fnExactGrowRouteSpec)

/-- 'laws.FnExactIsSeparated', WHERE WHAT IT READS IS OF BULK AT MOST 1048576: true; the input reads as it did. -/
def fnExactIsSeparatedUptoRow : OpenClaim := { program := "ytnomgmmgonmhlaa", sum := "1e9c95663050d56631b9659dcc347d47ff3f8a8b853689285d54e7359bfc4d25", func := "loop.example/g03311/laws.FnExactIsSeparated", spec := "fnExactIsSeparated", apart := false, narrowed := true }
def FnExactIsSeparatedUptoSaid : Prop := fnExactIsSeparatedUptoRow.holds Try.pinned (OpenSpec.upto fnExactIsSeparatedSpec)

/-- 'laws.FnExactSeparatedCount', WHERE WHAT IT READS IS OF BULK AT MOST 1048576: true; the input reads as it did. -/
def fnExactSeparatedCountUptoRow : OpenClaim := { program := "ytnomgmmgonmhlaa", sum := "1e9c95663050d56631b9659dcc347d47ff3f8a8b853689285d54e7359bfc4d25", func := "loop.example/g03311/laws.FnExactSeparatedCount", spec := "fnExactSeparatedCount", apart := false, narrowed := true }
def FnExactSeparatedCountUptoSaid : Prop := fnExactSeparatedCountUptoRow.holds Try.pinned (OpenSpec.upto fnExactSeparatedCountSpec)

/-- 'laws.FnExactCutRefutes', WHERE WHAT IT READS IS OF BULK AT MOST 1048576: true; the input reads as it did. -/
def fnExactCutRefutesUptoRow : OpenClaim := { program := "ytnomgmmgonmhlaa", sum := "1e9c95663050d56631b9659dcc347d47ff3f8a8b853689285d54e7359bfc4d25", func := "loop.example/g03311/laws.FnExactCutRefutes", spec := "fnExactCutRefutes", apart := false, narrowed := true }
def FnExactCutRefutesUptoSaid : Prop := fnExactCutRefutesUptoRow.holds Try.pinned (OpenSpec.upto fnExactCutRefutesSpec)

/-- 'laws.FnExactRoutesOk', WHERE WHAT IT READS IS OF BULK AT MOST 1048576: true; the input reads as it did. -/
def fnExactRoutesOkUptoRow : OpenClaim := { program := "ytnomgmmgonmhlaa", sum := "1e9c95663050d56631b9659dcc347d47ff3f8a8b853689285d54e7359bfc4d25", func := "loop.example/g03311/laws.FnExactRoutesOk", spec := "fnExactRoutesOk", apart := false, narrowed := true }
def FnExactRoutesOkUptoSaid : Prop := fnExactRoutesOkUptoRow.holds Try.pinned (OpenSpec.upto fnExactRoutesOkSpec)

/-- 'laws.FnExactFindRefutation', WHERE WHAT IT READS IS OF BULK AT MOST 1048576: true; the input reads as it did. -/
def fnExactFindRefutationUptoRow : OpenClaim := { program := "ytnomgmmgonmhlaa", sum := "1e9c95663050d56631b9659dcc347d47ff3f8a8b853689285d54e7359bfc4d25", func := "loop.example/g03311/laws.FnExactFindRefutation", spec := "fnExactFindRefutation", unfollowed := true, recurses := true, apart := false, narrowed := true }
def FnExactFindRefutationUptoSaid : Prop := fnExactFindRefutationUptoRow.holds Try.pinned (OpenSpec.upto fnExactFindRefutationSpec)

/-- 'laws.FnExactSetupSlacks', WHERE WHAT IT READS IS OF BULK AT MOST 1048576: true; the input reads as it did. -/
def fnExactSetupSlacksUptoRow : OpenClaim := { program := "ytnomgmmgonmhlaa", sum := "1e9c95663050d56631b9659dcc347d47ff3f8a8b853689285d54e7359bfc4d25", func := "loop.example/g03311/laws.FnExactSetupSlacks", spec := "fnExactSetupSlacks", unfollowed := true, recurses := true, apart := false, narrowed := true }
def FnExactSetupSlacksUptoSaid : Prop := fnExactSetupSlacksUptoRow.holds Try.pinned (OpenSpec.upto fnExactSetupSlacksSpec)

end Rows
end Go.Proofs.Ytnomgmmgonmhlaa
