/-
  No cell of these rows narrows 'for every input' (looked for: loops, veiled, ifaces, maps, wideKeys, modest, calm, conditions, laid).
  DERIVED. THE GIVEN ROWS OF THIS SEAT. 8 by the template 'for every input the law returns true; each argument reads behind the call as it read before'; 0 by the template 'total and deterministic' (their statements: YtnllpdmiijbehaaTotals.lean).
  GIVEN WITH THE SEED: the statements are not yours to turn. If you find one false, say at which input.
  Laid BY PROGRAM, IN A SANDBOX (cutbox-rows.mjs): the forced cells as the released guide's own fill.sh prints them over the translation 4aaf55b44e85fcbb… (all of the seat's roots in one cut). By AI agents, Wed Nov 11 2026. No macro, syntax, notation, axiom, sorry.
-/
import Derived.Test.YtnllpdmiijbehaaChecked
import GoSem.Claim
import GoSem.ClaimJoined
import GoSem.ClaimMapViews
import Derived.JoinedTies
import Derived.KernelRfl
namespace Go.Proofs.Ytnllpdmiijbehaa
/- THE CELL 'sum', in the pinned program and in every row, IS THE sha256 OF THE DUMP (.gsa) THAT YtnllpdmiijbehaaProg.lean LOADS. Nothing in Lean hashes anything: it is a label: what it is worth is what the hold of that sum in a sandbox is worth. -/
noncomputable def Try.pinned : Pinned := { name := "ytnllpdmiijbehaa", sum := "4aaf55b44e85fcbb9a834ec5c770e3029069a95a0ace248d39139e9ddd1deae9", checked := Try.checked }
namespace Rows
def none {H : Type} : Left H := { results := [], args := [] }

/-- 'laws.FnLongest': WHATEVER THE INPUT: true; the input reads as it did. -/
def fnLongestSpec : ChangeSpec := { name := "fnLongest", fn := fun _ => fun
  | [d] => { results := [.lit (.bool true)], args := [d] }
  | _ => none }
def fnLongestRow : OpenClaim := { program := "ytnllpdmiijbehaa", sum := "4aaf55b44e85fcbb9a834ec5c770e3029069a95a0ace248d39139e9ddd1deae9", func := "loop.example/g03311/laws.FnLongest", spec := "fnLongest", apart := false }
def FnLongestSaid : Prop := fnLongestRow.holds Try.pinned (OpenSpec.ofChange fnLongestSpec)

/-- ITS FALSE NEIGHBOUR: 'it returns false'. Refute it at one input. -/
def fnLongestWrong : ChangeSpec := { name := "fnLongest", fn := fun _ => fun
  | [d] => { results := [.lit (.bool false)], args := [d] }
  | _ => none }
def FnLongestWrongFalsely : Prop := fnLongestRow.holds Try.pinned (OpenSpec.ofChange fnLongestWrong)

/-- 'laws.FnExactPathDelay': WHATEVER THE INPUT: true; the input reads as it did. -/
def fnExactPathDelaySpec : ChangeSpec := { name := "fnExactPathDelay", fn := fun _ => fun
  | [d1, d2] => { results := [.lit (.bool true)], args := [d1, d2] }
  | _ => none }
def fnExactPathDelayRow : OpenClaim := { program := "ytnllpdmiijbehaa", sum := "4aaf55b44e85fcbb9a834ec5c770e3029069a95a0ace248d39139e9ddd1deae9", func := "loop.example/g03311/laws.FnExactPathDelay", spec := "fnExactPathDelay", apart := false }
def FnExactPathDelaySaid : Prop := fnExactPathDelayRow.holds Try.pinned (OpenSpec.ofChange fnExactPathDelaySpec)

/-- ITS FALSE NEIGHBOUR: 'it returns false'. Refute it at one input. -/
def fnExactPathDelayWrong : ChangeSpec := { name := "fnExactPathDelay", fn := fun _ => fun
  | [d1, d2] => { results := [.lit (.bool false)], args := [d1, d2] }
  | _ => none }
def FnExactPathDelayWrongFalsely : Prop := fnExactPathDelayRow.holds Try.pinned (OpenSpec.ofChange fnExactPathDelayWrong)

/-- 'laws.FnExactPointsOk': WHATEVER THE INPUT: true; the input reads as it did. -/
def fnExactPointsOkSpec : ChangeSpec := { name := "fnExactPointsOk", fn := fun _ => fun
  | [d1, d2] => { results := [.lit (.bool true)], args := [d1, d2] }
  | _ => none }
def fnExactPointsOkRow : OpenClaim := { program := "ytnllpdmiijbehaa", sum := "4aaf55b44e85fcbb9a834ec5c770e3029069a95a0ace248d39139e9ddd1deae9", func := "loop.example/g03311/laws.FnExactPointsOk", spec := "fnExactPointsOk", apart := false }
def FnExactPointsOkSaid : Prop := fnExactPointsOkRow.holds Try.pinned (OpenSpec.ofChange fnExactPointsOkSpec)

/-- ITS FALSE NEIGHBOUR: 'it returns false'. Refute it at one input. -/
def fnExactPointsOkWrong : ChangeSpec := { name := "fnExactPointsOk", fn := fun _ => fun
  | [d1, d2] => { results := [.lit (.bool false)], args := [d1, d2] }
  | _ => none }
def FnExactPointsOkWrongFalsely : Prop := fnExactPointsOkRow.holds Try.pinned (OpenSpec.ofChange fnExactPointsOkWrong)

/-- 'laws.FnExactLongestDelays': WHATEVER THE INPUT: true; the input reads as it did. -/
def fnExactLongestDelaysSpec : ChangeSpec := { name := "fnExactLongestDelays", fn := fun _ => fun
  | [d1, d2] => { results := [.lit (.bool true)], args := [d1, d2] }
  | _ => none }
def fnExactLongestDelaysRow : OpenClaim := { program := "ytnllpdmiijbehaa", sum := "4aaf55b44e85fcbb9a834ec5c770e3029069a95a0ace248d39139e9ddd1deae9", func := "loop.example/g03311/laws.FnExactLongestDelays", spec := "fnExactLongestDelays", apart := false }
def FnExactLongestDelaysSaid : Prop := fnExactLongestDelaysRow.holds Try.pinned (OpenSpec.ofChange fnExactLongestDelaysSpec)

/-- ITS FALSE NEIGHBOUR: 'it returns false'. Refute it at one input. -/
def fnExactLongestDelaysWrong : ChangeSpec := { name := "fnExactLongestDelays", fn := fun _ => fun
  | [d1, d2] => { results := [.lit (.bool false)], args := [d1, d2] }
  | _ => none }
def FnExactLongestDelaysWrongFalsely : Prop := fnExactLongestDelaysRow.holds Try.pinned (OpenSpec.ofChange fnExactLongestDelaysWrong)

/-- 'laws.FnExactShortestDelays': WHATEVER THE INPUT: true; the input reads as it did. -/
def fnExactShortestDelaysSpec : ChangeSpec := { name := "fnExactShortestDelays", fn := fun _ => fun
  | [d1, d2] => { results := [.lit (.bool true)], args := [d1, d2] }
  | _ => none }
def fnExactShortestDelaysRow : OpenClaim := { program := "ytnllpdmiijbehaa", sum := "4aaf55b44e85fcbb9a834ec5c770e3029069a95a0ace248d39139e9ddd1deae9", func := "loop.example/g03311/laws.FnExactShortestDelays", spec := "fnExactShortestDelays", apart := false }
def FnExactShortestDelaysSaid : Prop := fnExactShortestDelaysRow.holds Try.pinned (OpenSpec.ofChange fnExactShortestDelaysSpec)

/-- ITS FALSE NEIGHBOUR: 'it returns false'. Refute it at one input. -/
def fnExactShortestDelaysWrong : ChangeSpec := { name := "fnExactShortestDelays", fn := fun _ => fun
  | [d1, d2] => { results := [.lit (.bool false)], args := [d1, d2] }
  | _ => none }
def FnExactShortestDelaysWrongFalsely : Prop := fnExactShortestDelaysRow.holds Try.pinned (OpenSpec.ofChange fnExactShortestDelaysWrong)

/-- 'laws.FnExactCriticalPath': WHATEVER THE INPUT: true; the input reads as it did. -/
def fnExactCriticalPathSpec : ChangeSpec := { name := "fnExactCriticalPath", fn := fun _ => fun
  | [d1, d2, d3] => { results := [.lit (.bool true)], args := [d1, d2, d3] }
  | _ => none }
def fnExactCriticalPathRow : OpenClaim := { program := "ytnllpdmiijbehaa", sum := "4aaf55b44e85fcbb9a834ec5c770e3029069a95a0ace248d39139e9ddd1deae9", func := "loop.example/g03311/laws.FnExactCriticalPath", spec := "fnExactCriticalPath", apart := false }
def FnExactCriticalPathSaid : Prop := fnExactCriticalPathRow.holds Try.pinned (OpenSpec.ofChange fnExactCriticalPathSpec)

/-- ITS FALSE NEIGHBOUR: 'it returns false'. Refute it at one input. -/
def fnExactCriticalPathWrong : ChangeSpec := { name := "fnExactCriticalPath", fn := fun _ => fun
  | [d1, d2, d3] => { results := [.lit (.bool false)], args := [d1, d2, d3] }
  | _ => none }
def FnExactCriticalPathWrongFalsely : Prop := fnExactCriticalPathRow.holds Try.pinned (OpenSpec.ofChange fnExactCriticalPathWrong)

/-- 'laws.FnExactHoldSlacks': WHATEVER THE INPUT: true; the input reads as it did. -/
def fnExactHoldSlacksSpec : ChangeSpec := { name := "fnExactHoldSlacks", fn := fun _ => fun
  | [d1, d2, d3, d4] => { results := [.lit (.bool true)], args := [d1, d2, d3, d4] }
  | _ => none }
def fnExactHoldSlacksRow : OpenClaim := { program := "ytnllpdmiijbehaa", sum := "4aaf55b44e85fcbb9a834ec5c770e3029069a95a0ace248d39139e9ddd1deae9", func := "loop.example/g03311/laws.FnExactHoldSlacks", spec := "fnExactHoldSlacks", unfollowed := true, recurses := true, apart := false }
def FnExactHoldSlacksSaid : Prop := fnExactHoldSlacksRow.holds Try.pinned (OpenSpec.ofChange fnExactHoldSlacksSpec)

/-- ITS FALSE NEIGHBOUR: 'it returns false'. Refute it at one input. -/
def fnExactHoldSlacksWrong : ChangeSpec := { name := "fnExactHoldSlacks", fn := fun _ => fun
  | [d1, d2, d3, d4] => { results := [.lit (.bool false)], args := [d1, d2, d3, d4] }
  | _ => none }
def FnExactHoldSlacksWrongFalsely : Prop := fnExactHoldSlacksRow.holds Try.pinned (OpenSpec.ofChange fnExactHoldSlacksWrong)

/-- 'laws.FnExactSetupSlacks': WHATEVER THE INPUT: true; the input reads as it did. -/
def fnExactSetupSlacksSpec : ChangeSpec := { name := "fnExactSetupSlacks", fn := fun _ => fun
  | [d1, d2, d3, d4, d5] => { results := [.lit (.bool true)], args := [d1, d2, d3, d4, d5] }
  | _ => none }
def fnExactSetupSlacksRow : OpenClaim := { program := "ytnllpdmiijbehaa", sum := "4aaf55b44e85fcbb9a834ec5c770e3029069a95a0ace248d39139e9ddd1deae9", func := "loop.example/g03311/laws.FnExactSetupSlacks", spec := "fnExactSetupSlacks", unfollowed := true, recurses := true, apart := false }
def FnExactSetupSlacksSaid : Prop := fnExactSetupSlacksRow.holds Try.pinned (OpenSpec.ofChange fnExactSetupSlacksSpec)

/-- ITS FALSE NEIGHBOUR: 'it returns false'. Refute it at one input. -/
def fnExactSetupSlacksWrong : ChangeSpec := { name := "fnExactSetupSlacks", fn := fun _ => fun
  | [d1, d2, d3, d4, d5] => { results := [.lit (.bool false)], args := [d1, d2, d3, d4, d5] }
  | _ => none }
def FnExactSetupSlacksWrongFalsely : Prop := fnExactSetupSlacksRow.holds Try.pinned (OpenSpec.ofChange fnExactSetupSlacksWrong)

/- THE SECOND FORM. 'bulk': how many values and letters a reading holds, each counted each time it is reached (what is shared counts as often as it is met; a slice's spare places count too). A statement '..UptoSaid' is the law's where the arguments, and the package variables that the reading takes, are together of bulk at most 1048576: NARROWER than '..Said'. Prove '..Said' where nothing that the law and all that it calls make is longer than what came in: it says more and counts as full. Else prove '..UptoSaid'. A law counts once. -/
mutual
def uptoBulk {H : Type} : DataW H → Nat
  | .lit (.string bytes) => bytes.length + 1
  | .lit _ => 1
  | .nil => 1
  | .ptr d => uptoBulk d + 1
  | .slice elems spare => uptoBulkAll elems + uptoBulkAll spare + 1
  | .agg parts => uptoBulkAll parts + 1
  | .iface _ d => uptoBulk d + 1
  | .map entries => uptoBulkEntries entries + 1
  | .held _ => 1
def uptoBulkAll {H : Type} : List (DataW H) → Nat
  | [] => 0
  | d :: r => uptoBulk d + uptoBulkAll r
def uptoBulkEntries {H : Type} : List (Lit × DataW H) → Nat
  | [] => 0
  | x :: r => uptoBulkEntry x + uptoBulkEntries r
def uptoBulkEntry {H : Type} : Lit × DataW H → Nat
  | (.string bytes, d) => bytes.length + uptoBulk d + 1
  | (_, d) => uptoBulk d + 1
 end
def uptoSmall : (H : Type) → List (DataW H) → Bool := fun _ ds => decide (uptoBulkAll ds ≤ 1048576)
def OpenSpec.upto (s : _root_.Go.ChangeSpec) : _root_.Go.OpenSpec := { _root_.Go.OpenSpec.ofChange s with cond := some uptoSmall }

/-- 'laws.FnLongest', WHERE WHAT IT READS IS OF BULK AT MOST 1048576: true; the input reads as it did. -/
def fnLongestUptoRow : OpenClaim := { program := "ytnllpdmiijbehaa", sum := "4aaf55b44e85fcbb9a834ec5c770e3029069a95a0ace248d39139e9ddd1deae9", func := "loop.example/g03311/laws.FnLongest", spec := "fnLongest", apart := false, narrowed := true }
def FnLongestUptoSaid : Prop := fnLongestUptoRow.holds Try.pinned (OpenSpec.upto fnLongestSpec)

/-- 'laws.FnExactPathDelay', WHERE WHAT IT READS IS OF BULK AT MOST 1048576: true; the input reads as it did. -/
def fnExactPathDelayUptoRow : OpenClaim := { program := "ytnllpdmiijbehaa", sum := "4aaf55b44e85fcbb9a834ec5c770e3029069a95a0ace248d39139e9ddd1deae9", func := "loop.example/g03311/laws.FnExactPathDelay", spec := "fnExactPathDelay", apart := false, narrowed := true }
def FnExactPathDelayUptoSaid : Prop := fnExactPathDelayUptoRow.holds Try.pinned (OpenSpec.upto fnExactPathDelaySpec)

/-- 'laws.FnExactPointsOk', WHERE WHAT IT READS IS OF BULK AT MOST 1048576: true; the input reads as it did. -/
def fnExactPointsOkUptoRow : OpenClaim := { program := "ytnllpdmiijbehaa", sum := "4aaf55b44e85fcbb9a834ec5c770e3029069a95a0ace248d39139e9ddd1deae9", func := "loop.example/g03311/laws.FnExactPointsOk", spec := "fnExactPointsOk", apart := false, narrowed := true }
def FnExactPointsOkUptoSaid : Prop := fnExactPointsOkUptoRow.holds Try.pinned (OpenSpec.upto fnExactPointsOkSpec)

/-- 'laws.FnExactLongestDelays', WHERE WHAT IT READS IS OF BULK AT MOST 1048576: true; the input reads as it did. -/
def fnExactLongestDelaysUptoRow : OpenClaim := { program := "ytnllpdmiijbehaa", sum := "4aaf55b44e85fcbb9a834ec5c770e3029069a95a0ace248d39139e9ddd1deae9", func := "loop.example/g03311/laws.FnExactLongestDelays", spec := "fnExactLongestDelays", apart := false, narrowed := true }
def FnExactLongestDelaysUptoSaid : Prop := fnExactLongestDelaysUptoRow.holds Try.pinned (OpenSpec.upto fnExactLongestDelaysSpec)

/-- 'laws.FnExactShortestDelays', WHERE WHAT IT READS IS OF BULK AT MOST 1048576: true; the input reads as it did. -/
def fnExactShortestDelaysUptoRow : OpenClaim := { program := "ytnllpdmiijbehaa", sum := "4aaf55b44e85fcbb9a834ec5c770e3029069a95a0ace248d39139e9ddd1deae9", func := "loop.example/g03311/laws.FnExactShortestDelays", spec := "fnExactShortestDelays", apart := false, narrowed := true }
def FnExactShortestDelaysUptoSaid : Prop := fnExactShortestDelaysUptoRow.holds Try.pinned (OpenSpec.upto fnExactShortestDelaysSpec)

/-- 'laws.FnExactCriticalPath', WHERE WHAT IT READS IS OF BULK AT MOST 1048576: true; the input reads as it did. -/
def fnExactCriticalPathUptoRow : OpenClaim := { program := "ytnllpdmiijbehaa", sum := "4aaf55b44e85fcbb9a834ec5c770e3029069a95a0ace248d39139e9ddd1deae9", func := "loop.example/g03311/laws.FnExactCriticalPath", spec := "fnExactCriticalPath", apart := false, narrowed := true }
def FnExactCriticalPathUptoSaid : Prop := fnExactCriticalPathUptoRow.holds Try.pinned (OpenSpec.upto fnExactCriticalPathSpec)

/-- 'laws.FnExactHoldSlacks', WHERE WHAT IT READS IS OF BULK AT MOST 1048576: true; the input reads as it did. -/
def fnExactHoldSlacksUptoRow : OpenClaim := { program := "ytnllpdmiijbehaa", sum := "4aaf55b44e85fcbb9a834ec5c770e3029069a95a0ace248d39139e9ddd1deae9", func := "loop.example/g03311/laws.FnExactHoldSlacks", spec := "fnExactHoldSlacks", unfollowed := true, recurses := true, apart := false, narrowed := true }
def FnExactHoldSlacksUptoSaid : Prop := fnExactHoldSlacksUptoRow.holds Try.pinned (OpenSpec.upto fnExactHoldSlacksSpec)

/-- 'laws.FnExactSetupSlacks', WHERE WHAT IT READS IS OF BULK AT MOST 1048576: true; the input reads as it did. -/
def fnExactSetupSlacksUptoRow : OpenClaim := { program := "ytnllpdmiijbehaa", sum := "4aaf55b44e85fcbb9a834ec5c770e3029069a95a0ace248d39139e9ddd1deae9", func := "loop.example/g03311/laws.FnExactSetupSlacks", spec := "fnExactSetupSlacks", unfollowed := true, recurses := true, apart := false, narrowed := true }
def FnExactSetupSlacksUptoSaid : Prop := fnExactSetupSlacksUptoRow.holds Try.pinned (OpenSpec.upto fnExactSetupSlacksSpec)

end Rows
end Go.Proofs.Ytnllpdmiijbehaa
