/-
  No cell of these rows narrows 'for every input' (looked for: loops, veiled, ifaces, maps, wideKeys, modest, calm, conditions, laid).
  DERIVED. THE GIVEN ROWS OF THIS SEAT. 7 by the template 'for every input the law returns true; each argument reads behind the call as it read before'; 0 by the template 'total and deterministic' (their statements: YtjpkedhcbnklmaaTotals.lean).
  GIVEN WITH THE SEED: the statements are not yours to turn. If you find one false, say at which input.
  Laid BY PROGRAM, IN A SANDBOX (cutbox-rows.mjs): the forced cells as the released guide's own fill.sh prints them over the translation ccf17c3c8b782a0c… (all of the seat's roots in one cut). By AI agents, Wed Nov 11 2026. No macro, syntax, notation, axiom, sorry.
-/
import Derived.Test.YtjpkedhcbnklmaaChecked
import GoSem.Claim
import GoSem.ClaimJoined
import GoSem.ClaimMapViews
import Derived.JoinedTies
import Derived.KernelRfl
namespace Go.Proofs.Ytjpkedhcbnklmaa
/- THE CELL 'sum', in the pinned program and in every row, IS THE sha256 OF THE DUMP (.gsa) THAT YtjpkedhcbnklmaaProg.lean LOADS. Nothing in Lean hashes anything: it is a label: what it is worth is what the hold of that sum in a sandbox is worth. -/
noncomputable def Try.pinned : Pinned := { name := "ytjpkedhcbnklmaa", sum := "ccf17c3c8b782a0c26f1f0639eacbb7f8bb9ed39f9c18da5b55e4c18da8b6ec3", checked := Try.checked }
namespace Rows
def none {H : Type} : Left H := { results := [], args := [] }

/-- 'laws.FnExactPackOk': WHATEVER THE INPUT: true; the input reads as it did. -/
def fnExactPackOkSpec : ChangeSpec := { name := "fnExactPackOk", fn := fun _ => fun
  | [d1, d2] => { results := [.lit (.bool true)], args := [d1, d2] }
  | _ => none }
def fnExactPackOkRow : OpenClaim := { program := "ytjpkedhcbnklmaa", sum := "ccf17c3c8b782a0c26f1f0639eacbb7f8bb9ed39f9c18da5b55e4c18da8b6ec3", func := "loop.example/g03311/laws.FnExactPackOk", spec := "fnExactPackOk", apart := false }
def FnExactPackOkSaid : Prop := fnExactPackOkRow.holds Try.pinned (OpenSpec.ofChange fnExactPackOkSpec)

/-- ITS FALSE NEIGHBOUR: 'it returns false'. Refute it at one input. -/
def fnExactPackOkWrong : ChangeSpec := { name := "fnExactPackOk", fn := fun _ => fun
  | [d1, d2] => { results := [.lit (.bool false)], args := [d1, d2] }
  | _ => none }
def FnExactPackOkWrongFalsely : Prop := fnExactPackOkRow.holds Try.pinned (OpenSpec.ofChange fnExactPackOkWrong)

/-- 'laws.FnExactPack': WHATEVER THE INPUT: true; the input reads as it did. -/
def fnExactPackSpec : ChangeSpec := { name := "fnExactPack", fn := fun _ => fun
  | [d] => { results := [.lit (.bool true)], args := [d] }
  | _ => none }
def fnExactPackRow : OpenClaim := { program := "ytjpkedhcbnklmaa", sum := "ccf17c3c8b782a0c26f1f0639eacbb7f8bb9ed39f9c18da5b55e4c18da8b6ec3", func := "loop.example/g03311/laws.FnExactPack", spec := "fnExactPack", apart := false }
def FnExactPackSaid : Prop := fnExactPackRow.holds Try.pinned (OpenSpec.ofChange fnExactPackSpec)

/-- ITS FALSE NEIGHBOUR: 'it returns false'. Refute it at one input. -/
def fnExactPackWrong : ChangeSpec := { name := "fnExactPack", fn := fun _ => fun
  | [d] => { results := [.lit (.bool false)], args := [d] }
  | _ => none }
def FnExactPackWrongFalsely : Prop := fnExactPackRow.holds Try.pinned (OpenSpec.ofChange fnExactPackWrong)

/-- 'laws.FnExactConnsOf': WHATEVER THE INPUT: true; the input reads as it did. -/
def fnExactConnsOfSpec : ChangeSpec := { name := "fnExactConnsOf", fn := fun _ => fun
  | [d1, d2] => { results := [.lit (.bool true)], args := [d1, d2] }
  | _ => none }
def fnExactConnsOfRow : OpenClaim := { program := "ytjpkedhcbnklmaa", sum := "ccf17c3c8b782a0c26f1f0639eacbb7f8bb9ed39f9c18da5b55e4c18da8b6ec3", func := "loop.example/g03311/laws.FnExactConnsOf", spec := "fnExactConnsOf", apart := false }
def FnExactConnsOfSaid : Prop := fnExactConnsOfRow.holds Try.pinned (OpenSpec.ofChange fnExactConnsOfSpec)

/-- ITS FALSE NEIGHBOUR: 'it returns false'. Refute it at one input. -/
def fnExactConnsOfWrong : ChangeSpec := { name := "fnExactConnsOf", fn := fun _ => fun
  | [d1, d2] => { results := [.lit (.bool false)], args := [d1, d2] }
  | _ => none }
def FnExactConnsOfWrongFalsely : Prop := fnExactConnsOfRow.holds Try.pinned (OpenSpec.ofChange fnExactConnsOfWrong)

/-- 'laws.FnExactRouteAll': WHATEVER THE INPUT: true; the input reads as it did. -/
def fnExactRouteAllSpec : ChangeSpec := { name := "fnExactRouteAll", fn := fun _ => fun
  | [d1, d2, d3] => { results := [.lit (.bool true)], args := [d1, d2, d3] }
  | _ => none }
def fnExactRouteAllRow : OpenClaim := { program := "ytjpkedhcbnklmaa", sum := "ccf17c3c8b782a0c26f1f0639eacbb7f8bb9ed39f9c18da5b55e4c18da8b6ec3", func := "loop.example/g03311/laws.FnExactRouteAll", spec := "fnExactRouteAll", apart := false }
def FnExactRouteAllSaid : Prop := fnExactRouteAllRow.holds Try.pinned (OpenSpec.ofChange fnExactRouteAllSpec)

/-- ITS FALSE NEIGHBOUR: 'it returns false'. Refute it at one input. -/
def fnExactRouteAllWrong : ChangeSpec := { name := "fnExactRouteAll", fn := fun _ => fun
  | [d1, d2, d3] => { results := [.lit (.bool false)], args := [d1, d2, d3] }
  | _ => none }
def FnExactRouteAllWrongFalsely : Prop := fnExactRouteAllRow.holds Try.pinned (OpenSpec.ofChange fnExactRouteAllWrong)

/-- 'laws.FnPackKeeps': WHATEVER THE INPUT: true; the input reads as it did. -/
def fnPackKeepsSpec : ChangeSpec := { name := "fnPackKeeps", fn := fun _ => fun
  | [d] => { results := [.lit (.bool true)], args := [d] }
  | _ => none }
def fnPackKeepsRow : OpenClaim := { program := "ytjpkedhcbnklmaa", sum := "ccf17c3c8b782a0c26f1f0639eacbb7f8bb9ed39f9c18da5b55e4c18da8b6ec3", func := "loop.example/g03311/laws.FnPackKeeps", spec := "fnPackKeeps", apart := false }
def FnPackKeepsSaid : Prop := fnPackKeepsRow.holds Try.pinned (OpenSpec.ofChange fnPackKeepsSpec)

/-- ITS FALSE NEIGHBOUR: 'it returns false'. Refute it at one input. -/
def fnPackKeepsWrong : ChangeSpec := { name := "fnPackKeeps", fn := fun _ => fun
  | [d] => { results := [.lit (.bool false)], args := [d] }
  | _ => none }
def FnPackKeepsWrongFalsely : Prop := fnPackKeepsRow.holds Try.pinned (OpenSpec.ofChange fnPackKeepsWrong)

/-- 'laws.FnCostSum': WHATEVER THE INPUT: true; the input reads as it did. -/
def fnCostSumSpec : ChangeSpec := { name := "fnCostSum", fn := fun _ => fun
  | [d] => { results := [.lit (.bool true)], args := [d] }
  | _ => none }
def fnCostSumRow : OpenClaim := { program := "ytjpkedhcbnklmaa", sum := "ccf17c3c8b782a0c26f1f0639eacbb7f8bb9ed39f9c18da5b55e4c18da8b6ec3", func := "loop.example/g03311/laws.FnCostSum", spec := "fnCostSum", apart := false }
def FnCostSumSaid : Prop := fnCostSumRow.holds Try.pinned (OpenSpec.ofChange fnCostSumSpec)

/-- ITS FALSE NEIGHBOUR: 'it returns false'. Refute it at one input. -/
def fnCostSumWrong : ChangeSpec := { name := "fnCostSum", fn := fun _ => fun
  | [d] => { results := [.lit (.bool false)], args := [d] }
  | _ => none }
def FnCostSumWrongFalsely : Prop := fnCostSumRow.holds Try.pinned (OpenSpec.ofChange fnCostSumWrong)

/-- 'laws.FnPackLes': WHATEVER THE INPUT: true; the input reads as it did. -/
def fnPackLesSpec : ChangeSpec := { name := "fnPackLes", fn := fun _ => fun
  | [d] => { results := [.lit (.bool true)], args := [d] }
  | _ => none }
def fnPackLesRow : OpenClaim := { program := "ytjpkedhcbnklmaa", sum := "ccf17c3c8b782a0c26f1f0639eacbb7f8bb9ed39f9c18da5b55e4c18da8b6ec3", func := "loop.example/g03311/laws.FnPackLes", spec := "fnPackLes", apart := false }
def FnPackLesSaid : Prop := fnPackLesRow.holds Try.pinned (OpenSpec.ofChange fnPackLesSpec)

/-- ITS FALSE NEIGHBOUR: 'it returns false'. Refute it at one input. -/
def fnPackLesWrong : ChangeSpec := { name := "fnPackLes", fn := fun _ => fun
  | [d] => { results := [.lit (.bool false)], args := [d] }
  | _ => none }
def FnPackLesWrongFalsely : Prop := fnPackLesRow.holds Try.pinned (OpenSpec.ofChange fnPackLesWrong)

/- THE SECOND FORM. 'bulk': how many values and letters a reading holds, each counted each time it is reached (what is shared counts as often as it is met; a slice's spare places count too). A statement '..UptoSaid' is the law's where the arguments, and the package variables that the reading takes, are together of bulk at most 1048576: NARROWER than '..Said'. Prove '..Said' where nothing that the law and all that it calls make is longer than what came in: it says more and counts as full. Else prove '..UptoSaid'. A law counts once. -/
mutual
def uptoBulk {H : Type} : DataW H → Nat
  | .lit (.string bytes) => bytes.length + 1
  | .lit _ => 1
  | .nil => 1
  | .ptr d => uptoBulk d + 1
  | .slice elems spare => uptoBulkAll elems + uptoBulkAll spare + 1
  | .agg parts => uptoBulkAll parts + 1
  | .iface _ d => uptoBulk d + 1
  | .map entries => uptoBulkEntries entries + 1
  | .held _ => 1
def uptoBulkAll {H : Type} : List (DataW H) → Nat
  | [] => 0
  | d :: r => uptoBulk d + uptoBulkAll r
def uptoBulkEntries {H : Type} : List (Lit × DataW H) → Nat
  | [] => 0
  | x :: r => uptoBulkEntry x + uptoBulkEntries r
def uptoBulkEntry {H : Type} : Lit × DataW H → Nat
  | (.string bytes, d) => bytes.length + uptoBulk d + 1
  | (_, d) => uptoBulk d + 1
 end
def uptoSmall : (H : Type) → List (DataW H) → Bool := fun _ ds => decide (uptoBulkAll ds ≤ 1048576)
def OpenSpec.upto (s : _root_.Go.ChangeSpec) : _root_.Go.OpenSpec := { _root_.Go.OpenSpec.ofChange s with cond := some uptoSmall }

/-- 'laws.FnExactPackOk', WHERE WHAT IT READS IS OF BULK AT MOST 1048576: true; the input reads as it did. -/
def fnExactPackOkUptoRow : OpenClaim := { program := "ytjpkedhcbnklmaa", sum := "ccf17c3c8b782a0c26f1f0639eacbb7f8bb9ed39f9c18da5b55e4c18da8b6ec3", func := "loop.example/g03311/laws.FnExactPackOk", spec := "fnExactPackOk", apart := false, narrowed := true }
def FnExactPackOkUptoSaid : Prop := fnExactPackOkUptoRow.holds Try.pinned (OpenSpec.upto fnExactPackOkSpec)

/-- 'laws.FnExactPack', WHERE WHAT IT READS IS OF BULK AT MOST 1048576: true; the input reads as it did. -/
def fnExactPackUptoRow : OpenClaim := { program := "ytjpkedhcbnklmaa", sum := "ccf17c3c8b782a0c26f1f0639eacbb7f8bb9ed39f9c18da5b55e4c18da8b6ec3", func := "loop.example/g03311/laws.FnExactPack", spec := "fnExactPack", apart := false, narrowed := true }
def FnExactPackUptoSaid : Prop := fnExactPackUptoRow.holds Try.pinned (OpenSpec.upto fnExactPackSpec)

/-- 'laws.FnExactConnsOf', WHERE WHAT IT READS IS OF BULK AT MOST 1048576: true; the input reads as it did. -/
def fnExactConnsOfUptoRow : OpenClaim := { program := "ytjpkedhcbnklmaa", sum := "ccf17c3c8b782a0c26f1f0639eacbb7f8bb9ed39f9c18da5b55e4c18da8b6ec3", func := "loop.example/g03311/laws.FnExactConnsOf", spec := "fnExactConnsOf", apart := false, narrowed := true }
def FnExactConnsOfUptoSaid : Prop := fnExactConnsOfUptoRow.holds Try.pinned (OpenSpec.upto fnExactConnsOfSpec)

/-- 'laws.FnExactRouteAll', WHERE WHAT IT READS IS OF BULK AT MOST 1048576: true; the input reads as it did. -/
def fnExactRouteAllUptoRow : OpenClaim := { program := "ytjpkedhcbnklmaa", sum := "ccf17c3c8b782a0c26f1f0639eacbb7f8bb9ed39f9c18da5b55e4c18da8b6ec3", func := "loop.example/g03311/laws.FnExactRouteAll", spec := "fnExactRouteAll", apart := false, narrowed := true }
def FnExactRouteAllUptoSaid : Prop := fnExactRouteAllUptoRow.holds Try.pinned (OpenSpec.upto fnExactRouteAllSpec)

/-- 'laws.FnPackKeeps', WHERE WHAT IT READS IS OF BULK AT MOST 1048576: true; the input reads as it did. -/
def fnPackKeepsUptoRow : OpenClaim := { program := "ytjpkedhcbnklmaa", sum := "ccf17c3c8b782a0c26f1f0639eacbb7f8bb9ed39f9c18da5b55e4c18da8b6ec3", func := "loop.example/g03311/laws.FnPackKeeps", spec := "fnPackKeeps", apart := false, narrowed := true }
def FnPackKeepsUptoSaid : Prop := fnPackKeepsUptoRow.holds Try.pinned (OpenSpec.upto fnPackKeepsSpec)

/-- 'laws.FnCostSum', WHERE WHAT IT READS IS OF BULK AT MOST 1048576: true; the input reads as it did. -/
def fnCostSumUptoRow : OpenClaim := { program := "ytjpkedhcbnklmaa", sum := "ccf17c3c8b782a0c26f1f0639eacbb7f8bb9ed39f9c18da5b55e4c18da8b6ec3", func := "loop.example/g03311/laws.FnCostSum", spec := "fnCostSum", apart := false, narrowed := true }
def FnCostSumUptoSaid : Prop := fnCostSumUptoRow.holds Try.pinned (OpenSpec.upto fnCostSumSpec)

/-- 'laws.FnPackLes', WHERE WHAT IT READS IS OF BULK AT MOST 1048576: true; the input reads as it did. -/
def fnPackLesUptoRow : OpenClaim := { program := "ytjpkedhcbnklmaa", sum := "ccf17c3c8b782a0c26f1f0639eacbb7f8bb9ed39f9c18da5b55e4c18da8b6ec3", func := "loop.example/g03311/laws.FnPackLes", spec := "fnPackLes", apart := false, narrowed := true }
def FnPackLesUptoSaid : Prop := fnPackLesUptoRow.holds Try.pinned (OpenSpec.upto fnPackLesSpec)

end Rows
end Go.Proofs.Ytjpkedhcbnklmaa
