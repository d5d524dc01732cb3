/-
  No cell of these rows narrows 'for every input' (looked for: loops, veiled, ifaces, maps, wideKeys, modest, calm, conditions, laid).
  DERIVED. THE GIVEN ROWS OF THIS SEAT. 22 by the template 'for every input the law returns true; each argument reads behind the call as it read before'; 0 by the template 'total and deterministic' (their statements: YtfkaffmfhnkebaaTotals.lean).
  GIVEN WITH THE SEED: the statements are not yours to turn. If you find one false, say at which input.
  Laid BY PROGRAM, IN A SANDBOX (cutbox-rows.mjs): the forced cells as the released guide's own fill.sh prints them over the translation 556032d0e4b082de… (all of the seat's roots in one cut). By AI agents, Wed Nov 11 2026. No macro, syntax, notation, axiom, sorry.
-/
import Derived.Test.YtfkaffmfhnkebaaChecked
import GoSem.Claim
import GoSem.ClaimJoined
import GoSem.ClaimMapViews
import Derived.JoinedTies
import Derived.KernelRfl
namespace Go.Proofs.Ytfkaffmfhnkebaa
/- THE CELL 'sum', in the pinned program and in every row, IS THE sha256 OF THE DUMP (.gsa) THAT YtfkaffmfhnkebaaProg.lean LOADS. Nothing in Lean hashes anything: it is a label: what it is worth is what the hold of that sum in a sandbox is worth. -/
noncomputable def Try.pinned : Pinned := { name := "ytfkaffmfhnkebaa", sum := "556032d0e4b082de71bde96a21d107328821ecb07a915fe4b42e41df0770a3c5", checked := Try.checked }
namespace Rows
def none {H : Type} : Left H := { results := [], args := [] }

/-- 'laws.FnExactRouteNodeOk': WHATEVER THE INPUT: true; the input reads as it did. -/
def fnExactRouteNodeOkSpec : ChangeSpec := { name := "fnExactRouteNodeOk", fn := fun _ => fun
  | [d1, d2] => { results := [.lit (.bool true)], args := [d1, d2] }
  | _ => none }
def fnExactRouteNodeOkRow : OpenClaim := { program := "ytfkaffmfhnkebaa", sum := "556032d0e4b082de71bde96a21d107328821ecb07a915fe4b42e41df0770a3c5", func := "loop.example/g03311/laws.FnExactRouteNodeOk", spec := "fnExactRouteNodeOk", apart := false }
def FnExactRouteNodeOkSaid : Prop := fnExactRouteNodeOkRow.holds Try.pinned (OpenSpec.ofChange fnExactRouteNodeOkSpec)

/-- ITS FALSE NEIGHBOUR: 'it returns false'. Refute it at one input. -/
def fnExactRouteNodeOkWrong : ChangeSpec := { name := "fnExactRouteNodeOk", fn := fun _ => fun
  | [d1, d2] => { results := [.lit (.bool false)], args := [d1, d2] }
  | _ => none }
def FnExactRouteNodeOkWrongFalsely : Prop := fnExactRouteNodeOkRow.holds Try.pinned (OpenSpec.ofChange fnExactRouteNodeOkWrong)

/-- 'laws.FnExactIsWire': WHATEVER THE INPUT: true; the input reads as it did. -/
def fnExactIsWireSpec : ChangeSpec := { name := "fnExactIsWire", fn := fun _ => fun
  | [d1, d2] => { results := [.lit (.bool true)], args := [d1, d2] }
  | _ => none }
def fnExactIsWireRow : OpenClaim := { program := "ytfkaffmfhnkebaa", sum := "556032d0e4b082de71bde96a21d107328821ecb07a915fe4b42e41df0770a3c5", func := "loop.example/g03311/laws.FnExactIsWire", spec := "fnExactIsWire", apart := false }
def FnExactIsWireSaid : Prop := fnExactIsWireRow.holds Try.pinned (OpenSpec.ofChange fnExactIsWireSpec)

/-- ITS FALSE NEIGHBOUR: 'it returns false'. Refute it at one input. -/
def fnExactIsWireWrong : ChangeSpec := { name := "fnExactIsWire", fn := fun _ => fun
  | [d1, d2] => { results := [.lit (.bool false)], args := [d1, d2] }
  | _ => none }
def FnExactIsWireWrongFalsely : Prop := fnExactIsWireRow.holds Try.pinned (OpenSpec.ofChange fnExactIsWireWrong)

/-- 'laws.FnExactSourceNode': WHATEVER THE INPUT: true; the input reads as it did. -/
def fnExactSourceNodeSpec : ChangeSpec := { name := "fnExactSourceNode", fn := fun _ => fun
  | [d1, d2, d3] => { results := [.lit (.bool true)], args := [d1, d2, d3] }
  | _ => none }
def fnExactSourceNodeRow : OpenClaim := { program := "ytfkaffmfhnkebaa", sum := "556032d0e4b082de71bde96a21d107328821ecb07a915fe4b42e41df0770a3c5", func := "loop.example/g03311/laws.FnExactSourceNode", spec := "fnExactSourceNode", apart := false }
def FnExactSourceNodeSaid : Prop := fnExactSourceNodeRow.holds Try.pinned (OpenSpec.ofChange fnExactSourceNodeSpec)

/-- ITS FALSE NEIGHBOUR: 'it returns false'. Refute it at one input. -/
def fnExactSourceNodeWrong : ChangeSpec := { name := "fnExactSourceNode", fn := fun _ => fun
  | [d1, d2, d3] => { results := [.lit (.bool false)], args := [d1, d2, d3] }
  | _ => none }
def FnExactSourceNodeWrongFalsely : Prop := fnExactSourceNodeRow.holds Try.pinned (OpenSpec.ofChange fnExactSourceNodeWrong)

/-- 'laws.FnExactWireReaches': WHATEVER THE INPUT: true; the input reads as it did. -/
def fnExactWireReachesSpec : ChangeSpec := { name := "fnExactWireReaches", fn := fun _ => fun
  | [d1, d2] => { results := [.lit (.bool true)], args := [d1, d2] }
  | _ => none }
def fnExactWireReachesRow : OpenClaim := { program := "ytfkaffmfhnkebaa", sum := "556032d0e4b082de71bde96a21d107328821ecb07a915fe4b42e41df0770a3c5", func := "loop.example/g03311/laws.FnExactWireReaches", spec := "fnExactWireReaches", apart := false }
def FnExactWireReachesSaid : Prop := fnExactWireReachesRow.holds Try.pinned (OpenSpec.ofChange fnExactWireReachesSpec)

/-- ITS FALSE NEIGHBOUR: 'it returns false'. Refute it at one input. -/
def fnExactWireReachesWrong : ChangeSpec := { name := "fnExactWireReaches", fn := fun _ => fun
  | [d1, d2] => { results := [.lit (.bool false)], args := [d1, d2] }
  | _ => none }
def FnExactWireReachesWrongFalsely : Prop := fnExactWireReachesRow.holds Try.pinned (OpenSpec.ofChange fnExactWireReachesWrong)

/-- 'laws.FnExactSinkNodes': WHATEVER THE INPUT: true; the input reads as it did. -/
def fnExactSinkNodesSpec : ChangeSpec := { name := "fnExactSinkNodes", fn := fun _ => fun
  | [d1, d2, d3] => { results := [.lit (.bool true)], args := [d1, d2, d3] }
  | _ => none }
def fnExactSinkNodesRow : OpenClaim := { program := "ytfkaffmfhnkebaa", sum := "556032d0e4b082de71bde96a21d107328821ecb07a915fe4b42e41df0770a3c5", func := "loop.example/g03311/laws.FnExactSinkNodes", spec := "fnExactSinkNodes", apart := false }
def FnExactSinkNodesSaid : Prop := fnExactSinkNodesRow.holds Try.pinned (OpenSpec.ofChange fnExactSinkNodesSpec)

/-- ITS FALSE NEIGHBOUR: 'it returns false'. Refute it at one input. -/
def fnExactSinkNodesWrong : ChangeSpec := { name := "fnExactSinkNodes", fn := fun _ => fun
  | [d1, d2, d3] => { results := [.lit (.bool false)], args := [d1, d2, d3] }
  | _ => none }
def FnExactSinkNodesWrongFalsely : Prop := fnExactSinkNodesRow.holds Try.pinned (OpenSpec.ofChange fnExactSinkNodesWrong)

/-- 'laws.FnExactWireCount': WHATEVER THE INPUT: true; the input reads as it did. -/
def fnExactWireCountSpec : ChangeSpec := { name := "fnExactWireCount", fn := fun _ => fun
  | [d1, d2] => { results := [.lit (.bool true)], args := [d1, d2] }
  | _ => none }
def fnExactWireCountRow : OpenClaim := { program := "ytfkaffmfhnkebaa", sum := "556032d0e4b082de71bde96a21d107328821ecb07a915fe4b42e41df0770a3c5", func := "loop.example/g03311/laws.FnExactWireCount", spec := "fnExactWireCount", apart := false }
def FnExactWireCountSaid : Prop := fnExactWireCountRow.holds Try.pinned (OpenSpec.ofChange fnExactWireCountSpec)

/-- ITS FALSE NEIGHBOUR: 'it returns false'. Refute it at one input. -/
def fnExactWireCountWrong : ChangeSpec := { name := "fnExactWireCount", fn := fun _ => fun
  | [d1, d2] => { results := [.lit (.bool false)], args := [d1, d2] }
  | _ => none }
def FnExactWireCountWrongFalsely : Prop := fnExactWireCountRow.holds Try.pinned (OpenSpec.ofChange fnExactWireCountWrong)

/-- 'laws.FnExactOverused': WHATEVER THE INPUT: true; the input reads as it did. -/
def fnExactOverusedSpec : ChangeSpec := { name := "fnExactOverused", fn := fun _ => fun
  | [d1, d2] => { results := [.lit (.bool true)], args := [d1, d2] }
  | _ => none }
def fnExactOverusedRow : OpenClaim := { program := "ytfkaffmfhnkebaa", sum := "556032d0e4b082de71bde96a21d107328821ecb07a915fe4b42e41df0770a3c5", func := "loop.example/g03311/laws.FnExactOverused", spec := "fnExactOverused", apart := false }
def FnExactOverusedSaid : Prop := fnExactOverusedRow.holds Try.pinned (OpenSpec.ofChange fnExactOverusedSpec)

/-- ITS FALSE NEIGHBOUR: 'it returns false'. Refute it at one input. -/
def fnExactOverusedWrong : ChangeSpec := { name := "fnExactOverused", fn := fun _ => fun
  | [d1, d2] => { results := [.lit (.bool false)], args := [d1, d2] }
  | _ => none }
def FnExactOverusedWrongFalsely : Prop := fnExactOverusedRow.holds Try.pinned (OpenSpec.ofChange fnExactOverusedWrong)

/-- 'laws.FnExactSharedCosts': WHATEVER THE INPUT: true; the input reads as it did. -/
def fnExactSharedCostsSpec : ChangeSpec := { name := "fnExactSharedCosts", fn := fun _ => fun
  | [d1, d2, d3, d4] => { results := [.lit (.bool true)], args := [d1, d2, d3, d4] }
  | _ => none }
def fnExactSharedCostsRow : OpenClaim := { program := "ytfkaffmfhnkebaa", sum := "556032d0e4b082de71bde96a21d107328821ecb07a915fe4b42e41df0770a3c5", func := "loop.example/g03311/laws.FnExactSharedCosts", spec := "fnExactSharedCosts", apart := false }
def FnExactSharedCostsSaid : Prop := fnExactSharedCostsRow.holds Try.pinned (OpenSpec.ofChange fnExactSharedCostsSpec)

/-- ITS FALSE NEIGHBOUR: 'it returns false'. Refute it at one input. -/
def fnExactSharedCostsWrong : ChangeSpec := { name := "fnExactSharedCosts", fn := fun _ => fun
  | [d1, d2, d3, d4] => { results := [.lit (.bool false)], args := [d1, d2, d3, d4] }
  | _ => none }
def FnExactSharedCostsWrongFalsely : Prop := fnExactSharedCostsRow.holds Try.pinned (OpenSpec.ofChange fnExactSharedCostsWrong)

/-- 'laws.FnExactColumnCut': WHATEVER THE INPUT: true; the input reads as it did. -/
def fnExactColumnCutSpec : ChangeSpec := { name := "fnExactColumnCut", fn := fun _ => fun
  | [d1, d2] => { results := [.lit (.bool true)], args := [d1, d2] }
  | _ => none }
def fnExactColumnCutRow : OpenClaim := { program := "ytfkaffmfhnkebaa", sum := "556032d0e4b082de71bde96a21d107328821ecb07a915fe4b42e41df0770a3c5", func := "loop.example/g03311/laws.FnExactColumnCut", spec := "fnExactColumnCut", unfollowed := true, recurses := true, apart := false }
def FnExactColumnCutSaid : Prop := fnExactColumnCutRow.holds Try.pinned (OpenSpec.ofChange fnExactColumnCutSpec)

/-- ITS FALSE NEIGHBOUR: 'it returns false'. Refute it at one input. -/
def fnExactColumnCutWrong : ChangeSpec := { name := "fnExactColumnCut", fn := fun _ => fun
  | [d1, d2] => { results := [.lit (.bool false)], args := [d1, d2] }
  | _ => none }
def FnExactColumnCutWrongFalsely : Prop := fnExactColumnCutRow.holds Try.pinned (OpenSpec.ofChange fnExactColumnCutWrong)

/-- 'laws.FnExactRowCut': WHATEVER THE INPUT: true; the input reads as it did. -/
def fnExactRowCutSpec : ChangeSpec := { name := "fnExactRowCut", fn := fun _ => fun
  | [d1, d2] => { results := [.lit (.bool true)], args := [d1, d2] }
  | _ => none }
def fnExactRowCutRow : OpenClaim := { program := "ytfkaffmfhnkebaa", sum := "556032d0e4b082de71bde96a21d107328821ecb07a915fe4b42e41df0770a3c5", func := "loop.example/g03311/laws.FnExactRowCut", spec := "fnExactRowCut", unfollowed := true, recurses := true, apart := false }
def FnExactRowCutSaid : Prop := fnExactRowCutRow.holds Try.pinned (OpenSpec.ofChange fnExactRowCutSpec)

/-- ITS FALSE NEIGHBOUR: 'it returns false'. Refute it at one input. -/
def fnExactRowCutWrong : ChangeSpec := { name := "fnExactRowCut", fn := fun _ => fun
  | [d1, d2] => { results := [.lit (.bool false)], args := [d1, d2] }
  | _ => none }
def FnExactRowCutWrongFalsely : Prop := fnExactRowCutRow.holds Try.pinned (OpenSpec.ofChange fnExactRowCutWrong)

/-- 'laws.FnExactSources': WHATEVER THE INPUT: true; the input reads as it did. -/
def fnExactSourcesSpec : ChangeSpec := { name := "fnExactSources", fn := fun _ => fun
  | [d1, d2] => { results := [.lit (.bool true)], args := [d1, d2] }
  | _ => none }
def fnExactSourcesRow : OpenClaim := { program := "ytfkaffmfhnkebaa", sum := "556032d0e4b082de71bde96a21d107328821ecb07a915fe4b42e41df0770a3c5", func := "loop.example/g03311/laws.FnExactSources", spec := "fnExactSources", apart := false }
def FnExactSourcesSaid : Prop := fnExactSourcesRow.holds Try.pinned (OpenSpec.ofChange fnExactSourcesSpec)

/-- ITS FALSE NEIGHBOUR: 'it returns false'. Refute it at one input. -/
def fnExactSourcesWrong : ChangeSpec := { name := "fnExactSources", fn := fun _ => fun
  | [d1, d2] => { results := [.lit (.bool false)], args := [d1, d2] }
  | _ => none }
def FnExactSourcesWrongFalsely : Prop := fnExactSourcesRow.holds Try.pinned (OpenSpec.ofChange fnExactSourcesWrong)

/-- 'laws.FnExactPathCost': WHATEVER THE INPUT: true; the input reads as it did. -/
def fnExactPathCostSpec : ChangeSpec := { name := "fnExactPathCost", fn := fun _ => fun
  | [d1, d2, d3] => { results := [.lit (.bool true)], args := [d1, d2, d3] }
  | _ => none }
def fnExactPathCostRow : OpenClaim := { program := "ytfkaffmfhnkebaa", sum := "556032d0e4b082de71bde96a21d107328821ecb07a915fe4b42e41df0770a3c5", func := "loop.example/g03311/laws.FnExactPathCost", spec := "fnExactPathCost", apart := false }
def FnExactPathCostSaid : Prop := fnExactPathCostRow.holds Try.pinned (OpenSpec.ofChange fnExactPathCostSpec)

/-- ITS FALSE NEIGHBOUR: 'it returns false'. Refute it at one input. -/
def fnExactPathCostWrong : ChangeSpec := { name := "fnExactPathCost", fn := fun _ => fun
  | [d1, d2, d3] => { results := [.lit (.bool false)], args := [d1, d2, d3] }
  | _ => none }
def FnExactPathCostWrongFalsely : Prop := fnExactPathCostRow.holds Try.pinned (OpenSpec.ofChange fnExactPathCostWrong)

/-- 'laws.FnExactRouteOk': WHATEVER THE INPUT: true; the input reads as it did. -/
def fnExactRouteOkSpec : ChangeSpec := { name := "fnExactRouteOk", fn := fun _ => fun
  | [d1, d2, d3, d4] => { results := [.lit (.bool true)], args := [d1, d2, d3, d4] }
  | _ => none }
def fnExactRouteOkRow : OpenClaim := { program := "ytfkaffmfhnkebaa", sum := "556032d0e4b082de71bde96a21d107328821ecb07a915fe4b42e41df0770a3c5", func := "loop.example/g03311/laws.FnExactRouteOk", spec := "fnExactRouteOk", apart := false }
def FnExactRouteOkSaid : Prop := fnExactRouteOkRow.holds Try.pinned (OpenSpec.ofChange fnExactRouteOkSpec)

/-- ITS FALSE NEIGHBOUR: 'it returns false'. Refute it at one input. -/
def fnExactRouteOkWrong : ChangeSpec := { name := "fnExactRouteOk", fn := fun _ => fun
  | [d1, d2, d3, d4] => { results := [.lit (.bool false)], args := [d1, d2, d3, d4] }
  | _ => none }
def FnExactRouteOkWrongFalsely : Prop := fnExactRouteOkRow.holds Try.pinned (OpenSpec.ofChange fnExactRouteOkWrong)

/-- 'laws.FnExactDistances': WHATEVER THE INPUT: true; the input reads as it did. -/
def fnExactDistancesSpec : ChangeSpec := { name := "fnExactDistances", fn := fun _ => fun
  | [d1, d2, d3] => { results := [.lit (.bool true)], args := [d1, d2, d3] }
  | _ => none }
def fnExactDistancesRow : OpenClaim := { program := "ytfkaffmfhnkebaa", sum := "556032d0e4b082de71bde96a21d107328821ecb07a915fe4b42e41df0770a3c5", func := "loop.example/g03311/laws.FnExactDistances", spec := "fnExactDistances", apart := false }
def FnExactDistancesSaid : Prop := fnExactDistancesRow.holds Try.pinned (OpenSpec.ofChange fnExactDistancesSpec)

/-- ITS FALSE NEIGHBOUR: 'it returns false'. Refute it at one input. -/
def fnExactDistancesWrong : ChangeSpec := { name := "fnExactDistances", fn := fun _ => fun
  | [d1, d2, d3] => { results := [.lit (.bool false)], args := [d1, d2, d3] }
  | _ => none }
def FnExactDistancesWrongFalsely : Prop := fnExactDistancesRow.holds Try.pinned (OpenSpec.ofChange fnExactDistancesWrong)

/-- 'laws.FnExactCheapestPath': WHATEVER THE INPUT: true; the input reads as it did. -/
def fnExactCheapestPathSpec : ChangeSpec := { name := "fnExactCheapestPath", fn := fun _ => fun
  | [d1, d2, d3, d4] => { results := [.lit (.bool true)], args := [d1, d2, d3, d4] }
  | _ => none }
def fnExactCheapestPathRow : OpenClaim := { program := "ytfkaffmfhnkebaa", sum := "556032d0e4b082de71bde96a21d107328821ecb07a915fe4b42e41df0770a3c5", func := "loop.example/g03311/laws.FnExactCheapestPath", spec := "fnExactCheapestPath", apart := false }
def FnExactCheapestPathSaid : Prop := fnExactCheapestPathRow.holds Try.pinned (OpenSpec.ofChange fnExactCheapestPathSpec)

/-- ITS FALSE NEIGHBOUR: 'it returns false'. Refute it at one input. -/
def fnExactCheapestPathWrong : ChangeSpec := { name := "fnExactCheapestPath", fn := fun _ => fun
  | [d1, d2, d3, d4] => { results := [.lit (.bool false)], args := [d1, d2, d3, d4] }
  | _ => none }
def FnExactCheapestPathWrongFalsely : Prop := fnExactCheapestPathRow.holds Try.pinned (OpenSpec.ofChange fnExactCheapestPathWrong)

/-- 'laws.FnExactGrowRoute': WHATEVER THE INPUT: true; the input reads as it did. -/
def fnExactGrowRouteSpec : ChangeSpec := { name := "fnExactGrowRoute", fn := fun _ => fun
  | [d1, d2, d3, d4] => { results := [.lit (.bool true)], args := [d1, d2, d3, d4] }
  | _ => none }
def fnExactGrowRouteRow : OpenClaim := { program := "ytfkaffmfhnkebaa", sum := "556032d0e4b082de71bde96a21d107328821ecb07a915fe4b42e41df0770a3c5", func := "loop.example/g03311/laws.FnExactGrowRoute", spec := "fnExactGrowRoute", apart := false }
def FnExactGrowRouteSaid : Prop := fnExactGrowRouteRow.holds Try.pinned (OpenSpec.ofChange fnExactGrowRouteSpec)

/-- ITS FALSE NEIGHBOUR: 'it returns false'. Refute it at one input. -/
def fnExactGrowRouteWrong : ChangeSpec := { name := "fnExactGrowRoute", fn := fun _ => fun
  | [d1, d2, d3, d4] => { results := [.lit (.bool false)], args := [d1, d2, d3, d4] }
  | _ => none }
def FnExactGrowRouteWrongFalsely : Prop := fnExactGrowRouteRow.holds Try.pinned (OpenSpec.ofChange fnExactGrowRouteWrong)

/-- 'laws.FnExactIsSeparated': WHATEVER THE INPUT: true; the input reads as it did. -/
def fnExactIsSeparatedSpec : ChangeSpec := { name := "fnExactIsSeparated", fn := fun _ => fun
  | [d1, d2, d3, d4] => { results := [.lit (.bool true)], args := [d1, d2, d3, d4] }
  | _ => none }
def fnExactIsSeparatedRow : OpenClaim := { program := "ytfkaffmfhnkebaa", sum := "556032d0e4b082de71bde96a21d107328821ecb07a915fe4b42e41df0770a3c5", func := "loop.example/g03311/laws.FnExactIsSeparated", spec := "fnExactIsSeparated", apart := false }
def FnExactIsSeparatedSaid : Prop := fnExactIsSeparatedRow.holds Try.pinned (OpenSpec.ofChange fnExactIsSeparatedSpec)

/-- ITS FALSE NEIGHBOUR: 'it returns false'. Refute it at one input. -/
def fnExactIsSeparatedWrong : ChangeSpec := { name := "fnExactIsSeparated", fn := fun _ => fun
  | [d1, d2, d3, d4] => { results := [.lit (.bool false)], args := [d1, d2, d3, d4] }
  | _ => none }
def FnExactIsSeparatedWrongFalsely : Prop := fnExactIsSeparatedRow.holds Try.pinned (OpenSpec.ofChange fnExactIsSeparatedWrong)

/-- 'laws.FnExactSeparatedCount': WHATEVER THE INPUT: true; the input reads as it did. -/
def fnExactSeparatedCountSpec : ChangeSpec := { name := "fnExactSeparatedCount", fn := fun _ => fun
  | [d1, d2, d3, d4] => { results := [.lit (.bool true)], args := [d1, d2, d3, d4] }
  | _ => none }
def fnExactSeparatedCountRow : OpenClaim := { program := "ytfkaffmfhnkebaa", sum := "556032d0e4b082de71bde96a21d107328821ecb07a915fe4b42e41df0770a3c5", func := "loop.example/g03311/laws.FnExactSeparatedCount", spec := "fnExactSeparatedCount", apart := false }
def FnExactSeparatedCountSaid : Prop := fnExactSeparatedCountRow.holds Try.pinned (OpenSpec.ofChange fnExactSeparatedCountSpec)

/-- ITS FALSE NEIGHBOUR: 'it returns false'. Refute it at one input. -/
def fnExactSeparatedCountWrong : ChangeSpec := { name := "fnExactSeparatedCount", fn := fun _ => fun
  | [d1, d2, d3, d4] => { results := [.lit (.bool false)], args := [d1, d2, d3, d4] }
  | _ => none }
def FnExactSeparatedCountWrongFalsely : Prop := fnExactSeparatedCountRow.holds Try.pinned (OpenSpec.ofChange fnExactSeparatedCountWrong)

/-- 'laws.FnExactCutRefutes': WHATEVER THE INPUT: true; the input reads as it did. -/
def fnExactCutRefutesSpec : ChangeSpec := { name := "fnExactCutRefutes", fn := fun _ => fun
  | [d1, d2, d3, d4] => { results := [.lit (.bool true)], args := [d1, d2, d3, d4] }
  | _ => none }
def fnExactCutRefutesRow : OpenClaim := { program := "ytfkaffmfhnkebaa", sum := "556032d0e4b082de71bde96a21d107328821ecb07a915fe4b42e41df0770a3c5", func := "loop.example/g03311/laws.FnExactCutRefutes", spec := "fnExactCutRefutes", apart := false }
def FnExactCutRefutesSaid : Prop := fnExactCutRefutesRow.holds Try.pinned (OpenSpec.ofChange fnExactCutRefutesSpec)

/-- ITS FALSE NEIGHBOUR: 'it returns false'. Refute it at one input. -/
def fnExactCutRefutesWrong : ChangeSpec := { name := "fnExactCutRefutes", fn := fun _ => fun
  | [d1, d2, d3, d4] => { results := [.lit (.bool false)], args := [d1, d2, d3, d4] }
  | _ => none }
def FnExactCutRefutesWrongFalsely : Prop := fnExactCutRefutesRow.holds Try.pinned (OpenSpec.ofChange fnExactCutRefutesWrong)

/-- 'laws.FnExactRoutesOk': WHATEVER THE INPUT: true; the input reads as it did. -/
def fnExactRoutesOkSpec : ChangeSpec := { name := "fnExactRoutesOk", fn := fun _ => fun
  | [d1, d2, d3, d4] => { results := [.lit (.bool true)], args := [d1, d2, d3, d4] }
  | _ => none }
def fnExactRoutesOkRow : OpenClaim := { program := "ytfkaffmfhnkebaa", sum := "556032d0e4b082de71bde96a21d107328821ecb07a915fe4b42e41df0770a3c5", func := "loop.example/g03311/laws.FnExactRoutesOk", spec := "fnExactRoutesOk", apart := false }
def FnExactRoutesOkSaid : Prop := fnExactRoutesOkRow.holds Try.pinned (OpenSpec.ofChange fnExactRoutesOkSpec)

/-- ITS FALSE NEIGHBOUR: 'it returns false'. Refute it at one input. -/
def fnExactRoutesOkWrong : ChangeSpec := { name := "fnExactRoutesOk", fn := fun _ => fun
  | [d1, d2, d3, d4] => { results := [.lit (.bool false)], args := [d1, d2, d3, d4] }
  | _ => none }
def FnExactRoutesOkWrongFalsely : Prop := fnExactRoutesOkRow.holds Try.pinned (OpenSpec.ofChange fnExactRoutesOkWrong)

/-- 'laws.FnExactFindRefutation': WHATEVER THE INPUT: true; the input reads as it did. -/
def fnExactFindRefutationSpec : ChangeSpec := { name := "fnExactFindRefutation", fn := fun _ => fun
  | [d1, d2, d3] => { results := [.lit (.bool true)], args := [d1, d2, d3] }
  | _ => none }
def fnExactFindRefutationRow : OpenClaim := { program := "ytfkaffmfhnkebaa", sum := "556032d0e4b082de71bde96a21d107328821ecb07a915fe4b42e41df0770a3c5", func := "loop.example/g03311/laws.FnExactFindRefutation", spec := "fnExactFindRefutation", unfollowed := true, recurses := true, apart := false }
def FnExactFindRefutationSaid : Prop := fnExactFindRefutationRow.holds Try.pinned (OpenSpec.ofChange fnExactFindRefutationSpec)

/-- ITS FALSE NEIGHBOUR: 'it returns false'. Refute it at one input. -/
def fnExactFindRefutationWrong : ChangeSpec := { name := "fnExactFindRefutation", fn := fun _ => fun
  | [d1, d2, d3] => { results := [.lit (.bool false)], args := [d1, d2, d3] }
  | _ => none }
def FnExactFindRefutationWrongFalsely : Prop := fnExactFindRefutationRow.holds Try.pinned (OpenSpec.ofChange fnExactFindRefutationWrong)

/-- 'laws.FnExactRouteAll': WHATEVER THE INPUT: true; the input reads as it did. -/
def fnExactRouteAllSpec : ChangeSpec := { name := "fnExactRouteAll", fn := fun _ => fun
  | [d1, d2, d3] => { results := [.lit (.bool true)], args := [d1, d2, d3] }
  | _ => none }
def fnExactRouteAllRow : OpenClaim := { program := "ytfkaffmfhnkebaa", sum := "556032d0e4b082de71bde96a21d107328821ecb07a915fe4b42e41df0770a3c5", func := "loop.example/g03311/laws.FnExactRouteAll", spec := "fnExactRouteAll", apart := false }
def FnExactRouteAllSaid : Prop := fnExactRouteAllRow.holds Try.pinned (OpenSpec.ofChange fnExactRouteAllSpec)

/-- ITS FALSE NEIGHBOUR: 'it returns false'. Refute it at one input. -/
def fnExactRouteAllWrong : ChangeSpec := { name := "fnExactRouteAll", fn := fun _ => fun
  | [d1, d2, d3] => { results := [.lit (.bool false)], args := [d1, d2, d3] }
  | _ => none }
def FnExactRouteAllWrongFalsely : Prop := fnExactRouteAllRow.holds Try.pinned (OpenSpec.ofChange fnExactRouteAllWrong)

/- THE SECOND FORM. 'bulk': how many values and letters a reading holds, each counted each time it is reached (what is shared counts as often as it is met; a slice's spare places count too). A statement '..UptoSaid' is the law's where the arguments, and the package variables that the reading takes, are together of bulk at most 1048576: NARROWER than '..Said'. Prove '..Said' where nothing that the law and all that it calls make is longer than what came in: it says more and counts as full. Else prove '..UptoSaid'. A law counts once. -/
mutual
def uptoBulk {H : Type} : DataW H → Nat
  | .lit (.string bytes) => bytes.length + 1
  | .lit _ => 1
  | .nil => 1
  | .ptr d => uptoBulk d + 1
  | .slice elems spare => uptoBulkAll elems + uptoBulkAll spare + 1
  | .agg parts => uptoBulkAll parts + 1
  | .iface _ d => uptoBulk d + 1
  | .map entries => uptoBulkEntries entries + 1
  | .held _ => 1
def uptoBulkAll {H : Type} : List (DataW H) → Nat
  | [] => 0
  | d :: r => uptoBulk d + uptoBulkAll r
def uptoBulkEntries {H : Type} : List (Lit × DataW H) → Nat
  | [] => 0
  | x :: r => uptoBulkEntry x + uptoBulkEntries r
def uptoBulkEntry {H : Type} : Lit × DataW H → Nat
  | (.string bytes, d) => bytes.length + uptoBulk d + 1
  | (_, d) => uptoBulk d + 1
 end
def uptoSmall : (H : Type) → List (DataW H) → Bool := fun _ ds => decide (uptoBulkAll ds ≤ 1048576)
def OpenSpec.upto (s : _root_.Go.ChangeSpec) : _root_.Go.OpenSpec := { _root_.Go.OpenSpec.ofChange s with cond := some uptoSmall }

/-- 'laws.FnExactRouteNodeOk', WHERE WHAT IT READS IS OF BULK AT MOST 1048576: true; the input reads as it did. -/
def fnExactRouteNodeOkUptoRow : OpenClaim := { program := "ytfkaffmfhnkebaa", sum := "556032d0e4b082de71bde96a21d107328821ecb07a915fe4b42e41df0770a3c5", func := "loop.example/g03311/laws.FnExactRouteNodeOk", spec := "fnExactRouteNodeOk", apart := false, narrowed := true }
def FnExactRouteNodeOkUptoSaid : Prop := fnExactRouteNodeOkUptoRow.holds Try.pinned (OpenSpec.upto fnExactRouteNodeOkSpec)

/-- 'laws.FnExactIsWire', WHERE WHAT IT READS IS OF BULK AT MOST 1048576: true; the input reads as it did. -/
def fnExactIsWireUptoRow : OpenClaim := { program := "ytfkaffmfhnkebaa", sum := "556032d0e4b082de71bde96a21d107328821ecb07a915fe4b42e41df0770a3c5", func := "loop.example/g03311/laws.FnExactIsWire", spec := "fnExactIsWire", apart := false, narrowed := true }
def FnExactIsWireUptoSaid : Prop := fnExactIsWireUptoRow.holds Try.pinned (OpenSpec.upto fnExactIsWireSpec)

/-- 'laws.FnExactSourceNode', WHERE WHAT IT READS IS OF BULK AT MOST 1048576: true; the input reads as it did. -/
def fnExactSourceNodeUptoRow : OpenClaim := { program := "ytfkaffmfhnkebaa", sum := "556032d0e4b082de71bde96a21d107328821ecb07a915fe4b42e41df0770a3c5", func := "loop.example/g03311/laws.FnExactSourceNode", spec := "fnExactSourceNode", apart := false, narrowed := true }
def FnExactSourceNodeUptoSaid : Prop := fnExactSourceNodeUptoRow.holds Try.pinned (OpenSpec.upto fnExactSourceNodeSpec)

/-- 'laws.FnExactWireReaches', WHERE WHAT IT READS IS OF BULK AT MOST 1048576: true; the input reads as it did. -/
def fnExactWireReachesUptoRow : OpenClaim := { program := "ytfkaffmfhnkebaa", sum := "556032d0e4b082de71bde96a21d107328821ecb07a915fe4b42e41df0770a3c5", func := "loop.example/g03311/laws.FnExactWireReaches", spec := "fnExactWireReaches", apart := false, narrowed := true }
def FnExactWireReachesUptoSaid : Prop := fnExactWireReachesUptoRow.holds Try.pinned (OpenSpec.upto fnExactWireReachesSpec)

/-- 'laws.FnExactSinkNodes', WHERE WHAT IT READS IS OF BULK AT MOST 1048576: true; the input reads as it did. -/
def fnExactSinkNodesUptoRow : OpenClaim := { program := "ytfkaffmfhnkebaa", sum := "556032d0e4b082de71bde96a21d107328821ecb07a915fe4b42e41df0770a3c5", func := "loop.example/g03311/laws.FnExactSinkNodes", spec := "fnExactSinkNodes", apart := false, narrowed := true }
def FnExactSinkNodesUptoSaid : Prop := fnExactSinkNodesUptoRow.holds Try.pinned (OpenSpec.upto fnExactSinkNodesSpec)

/-- 'laws.FnExactWireCount', WHERE WHAT IT READS IS OF BULK AT MOST 1048576: true; the input reads as it did. -/
def fnExactWireCountUptoRow : OpenClaim := { program := "ytfkaffmfhnkebaa", sum := "556032d0e4b082de71bde96a21d107328821ecb07a915fe4b42e41df0770a3c5", func := "loop.example/g03311/laws.FnExactWireCount", spec := "fnExactWireCount", apart := false, narrowed := true }
def FnExactWireCountUptoSaid : Prop := fnExactWireCountUptoRow.holds Try.pinned (OpenSpec.upto fnExactWireCountSpec)

/-- 'laws.FnExactOverused', WHERE WHAT IT READS IS OF BULK AT MOST 1048576: true; the input reads as it did. -/
def fnExactOverusedUptoRow : OpenClaim := { program := "ytfkaffmfhnkebaa", sum := "556032d0e4b082de71bde96a21d107328821ecb07a915fe4b42e41df0770a3c5", func := "loop.example/g03311/laws.FnExactOverused", spec := "fnExactOverused", apart := false, narrowed := true }
def FnExactOverusedUptoSaid : Prop := fnExactOverusedUptoRow.holds Try.pinned (OpenSpec.upto fnExactOverusedSpec)

/-- 'laws.FnExactSharedCosts', WHERE WHAT IT READS IS OF BULK AT MOST 1048576: true; the input reads as it did. -/
def fnExactSharedCostsUptoRow : OpenClaim := { program := "ytfkaffmfhnkebaa", sum := "556032d0e4b082de71bde96a21d107328821ecb07a915fe4b42e41df0770a3c5", func := "loop.example/g03311/laws.FnExactSharedCosts", spec := "fnExactSharedCosts", apart := false, narrowed := true }
def FnExactSharedCostsUptoSaid : Prop := fnExactSharedCostsUptoRow.holds Try.pinned (OpenSpec.upto fnExactSharedCostsSpec)

/-- 'laws.FnExactColumnCut', WHERE WHAT IT READS IS OF BULK AT MOST 1048576: true; the input reads as it did. -/
def fnExactColumnCutUptoRow : OpenClaim := { program := "ytfkaffmfhnkebaa", sum := "556032d0e4b082de71bde96a21d107328821ecb07a915fe4b42e41df0770a3c5", func := "loop.example/g03311/laws.FnExactColumnCut", spec := "fnExactColumnCut", unfollowed := true, recurses := true, apart := false, narrowed := true }
def FnExactColumnCutUptoSaid : Prop := fnExactColumnCutUptoRow.holds Try.pinned (OpenSpec.upto fnExactColumnCutSpec)

/-- 'laws.FnExactRowCut', WHERE WHAT IT READS IS OF BULK AT MOST 1048576: true; the input reads as it did. -/
def fnExactRowCutUptoRow : OpenClaim := { program := "ytfkaffmfhnkebaa", sum := "556032d0e4b082de71bde96a21d107328821ecb07a915fe4b42e41df0770a3c5", func := "loop.example/g03311/laws.FnExactRowCut", spec := "fnExactRowCut", unfollowed := true, recurses := true, apart := false, narrowed := true }
def FnExactRowCutUptoSaid : Prop := fnExactRowCutUptoRow.holds Try.pinned (OpenSpec.upto fnExactRowCutSpec)

/-- 'laws.FnExactSources', WHERE WHAT IT READS IS OF BULK AT MOST 1048576: true; the input reads as it did. -/
def fnExactSourcesUptoRow : OpenClaim := { program := "ytfkaffmfhnkebaa", sum := "556032d0e4b082de71bde96a21d107328821ecb07a915fe4b42e41df0770a3c5", func := "loop.example/g03311/laws.FnExactSources", spec := "fnExactSources", apart := false, narrowed := true }
def FnExactSourcesUptoSaid : Prop := fnExactSourcesUptoRow.holds Try.pinned (OpenSpec.upto fnExactSourcesSpec)

/-- 'laws.FnExactPathCost', WHERE WHAT IT READS IS OF BULK AT MOST 1048576: true; the input reads as it did. -/
def fnExactPathCostUptoRow : OpenClaim := { program := "ytfkaffmfhnkebaa", sum := "556032d0e4b082de71bde96a21d107328821ecb07a915fe4b42e41df0770a3c5", func := "loop.example/g03311/laws.FnExactPathCost", spec := "fnExactPathCost", apart := false, narrowed := true }
def FnExactPathCostUptoSaid : Prop := fnExactPathCostUptoRow.holds Try.pinned (OpenSpec.upto fnExactPathCostSpec)

/-- 'laws.FnExactRouteOk', WHERE WHAT IT READS IS OF BULK AT MOST 1048576: true; the input reads as it did. -/
def fnExactRouteOkUptoRow : OpenClaim := { program := "ytfkaffmfhnkebaa", sum := "556032d0e4b082de71bde96a21d107328821ecb07a915fe4b42e41df0770a3c5", func := "loop.example/g03311/laws.FnExactRouteOk", spec := "fnExactRouteOk", apart := false, narrowed := true }
def FnExactRouteOkUptoSaid : Prop := fnExactRouteOkUptoRow.holds Try.pinned (OpenSpec.upto fnExactRouteOkSpec)

/-- 'laws.FnExactDistances', WHERE WHAT IT READS IS OF BULK AT MOST 1048576: true; the input reads as it did. -/
def fnExactDistancesUptoRow : OpenClaim := { program := "ytfkaffmfhnkebaa", sum := "556032d0e4b082de71bde96a21d107328821ecb07a915fe4b42e41df0770a3c5", func := "loop.example/g03311/laws.FnExactDistances", spec := "fnExactDistances", apart := false, narrowed := true }
def FnExactDistancesUptoSaid : Prop := fnExactDistancesUptoRow.holds Try.pinned (OpenSpec.upto fnExactDistancesSpec)

/-- 'laws.FnExactCheapestPath', WHERE WHAT IT READS IS OF BULK AT MOST 1048576: true; the input reads as it did. -/
def fnExactCheapestPathUptoRow : OpenClaim := { program := "ytfkaffmfhnkebaa", sum := "556032d0e4b082de71bde96a21d107328821ecb07a915fe4b42e41df0770a3c5", func := "loop.example/g03311/laws.FnExactCheapestPath", spec := "fnExactCheapestPath", apart := false, narrowed := true }
def FnExactCheapestPathUptoSaid : Prop := fnExactCheapestPathUptoRow.holds Try.pinned (OpenSpec.upto fnExactCheapestPathSpec)

/-- 'laws.FnExactGrowRoute', WHERE WHAT IT READS IS OF BULK AT MOST 1048576: true; the input reads as it did. -/
def fnExactGrowRouteUptoRow : OpenClaim := { program := "ytfkaffmfhnkebaa", sum := "556032d0e4b082de71bde96a21d107328821ecb07a915fe4b42e41df0770a3c5", func := "loop.example/g03311/laws.FnExactGrowRoute", spec := "fnExactGrowRoute", apart := false, narrowed := true }
def FnExactGrowRouteUptoSaid : Prop := fnExactGrowRouteUptoRow.holds Try.pinned (OpenSpec.upto fnExactGrowRouteSpec)

/-- 'laws.FnExactIsSeparated', WHERE WHAT IT READS IS OF BULK AT MOST 1048576: true; the input reads as it did. -/
def fnExactIsSeparatedUptoRow : OpenClaim := { program := "ytfkaffmfhnkebaa", sum := "556032d0e4b082de71bde96a21d107328821ecb07a915fe4b42e41df0770a3c5", func := "loop.example/g03311/laws.FnExactIsSeparated", spec := "fnExactIsSeparated", apart := false, narrowed := true }
def FnExactIsSeparatedUptoSaid : Prop := fnExactIsSeparatedUptoRow.holds Try.pinned (OpenSpec.upto fnExactIsSeparatedSpec)

/-- 'laws.FnExactSeparatedCount', WHERE WHAT IT READS IS OF BULK AT MOST 1048576: true; the input reads as it did. -/
def fnExactSeparatedCountUptoRow : OpenClaim := { program := "ytfkaffmfhnkebaa", sum := "556032d0e4b082de71bde96a21d107328821ecb07a915fe4b42e41df0770a3c5", func := "loop.example/g03311/laws.FnExactSeparatedCount", spec := "fnExactSeparatedCount", apart := false, narrowed := true }
def FnExactSeparatedCountUptoSaid : Prop := fnExactSeparatedCountUptoRow.holds Try.pinned (OpenSpec.upto fnExactSeparatedCountSpec)

/-- 'laws.FnExactCutRefutes', WHERE WHAT IT READS IS OF BULK AT MOST 1048576: true; the input reads as it did. -/
def fnExactCutRefutesUptoRow : OpenClaim := { program := "ytfkaffmfhnkebaa", sum := "556032d0e4b082de71bde96a21d107328821ecb07a915fe4b42e41df0770a3c5", func := "loop.example/g03311/laws.FnExactCutRefutes", spec := "fnExactCutRefutes", apart := false, narrowed := true }
def FnExactCutRefutesUptoSaid : Prop := fnExactCutRefutesUptoRow.holds Try.pinned (OpenSpec.upto fnExactCutRefutesSpec)

/-- 'laws.FnExactRoutesOk', WHERE WHAT IT READS IS OF BULK AT MOST 1048576: true; the input reads as it did. -/
def fnExactRoutesOkUptoRow : OpenClaim := { program := "ytfkaffmfhnkebaa", sum := "556032d0e4b082de71bde96a21d107328821ecb07a915fe4b42e41df0770a3c5", func := "loop.example/g03311/laws.FnExactRoutesOk", spec := "fnExactRoutesOk", apart := false, narrowed := true }
def FnExactRoutesOkUptoSaid : Prop := fnExactRoutesOkUptoRow.holds Try.pinned (OpenSpec.upto fnExactRoutesOkSpec)

/-- 'laws.FnExactFindRefutation', WHERE WHAT IT READS IS OF BULK AT MOST 1048576: true; the input reads as it did. -/
def fnExactFindRefutationUptoRow : OpenClaim := { program := "ytfkaffmfhnkebaa", sum := "556032d0e4b082de71bde96a21d107328821ecb07a915fe4b42e41df0770a3c5", func := "loop.example/g03311/laws.FnExactFindRefutation", spec := "fnExactFindRefutation", unfollowed := true, recurses := true, apart := false, narrowed := true }
def FnExactFindRefutationUptoSaid : Prop := fnExactFindRefutationUptoRow.holds Try.pinned (OpenSpec.upto fnExactFindRefutationSpec)

/-- 'laws.FnExactRouteAll', WHERE WHAT IT READS IS OF BULK AT MOST 1048576: true; the input reads as it did. -/
def fnExactRouteAllUptoRow : OpenClaim := { program := "ytfkaffmfhnkebaa", sum := "556032d0e4b082de71bde96a21d107328821ecb07a915fe4b42e41df0770a3c5", func := "loop.example/g03311/laws.FnExactRouteAll", spec := "fnExactRouteAll", apart := false, narrowed := true }
def FnExactRouteAllUptoSaid : Prop := fnExactRouteAllUptoRow.holds Try.pinned (OpenSpec.upto fnExactRouteAllSpec)

end Rows
end Go.Proofs.Ytfkaffmfhnkebaa
