/-
  Proved here: the law FnCostSum returns true for all arguments and leaves them as they were. No further condition.
-/
import Derived.Test.YtjpkedhcbnklmaaLawFnCostSum
import Derived.Test.YtjpkedhcbnklmaaEFnCostSum
import Derived.Test.YtjpkedhcbnklmaaIni
import Derived.Test.YtjpkedhcbnklmaaRows
namespace Go.Proofs.Ytjpkedhcbnklmaa
open Go Go.Pu Go.Proofs Go.ChangeShapes Go.WideShapes Go.ChangeAt Go.RowKit
set_option linter.unusedVariables false
namespace fnCostSum
theorem own:ownKnob Try.prog.godebug=none:=by kernel_rfl
theorem law (x:sg8.p.den) (h:InR sg8.p x):∃y,fn8 x=some y/\V.c ⟨sg8.r,y⟩= .bool true:=
  ⟨true,by rw [eq8];exact Pf.law_FnCostSum x h,rfl⟩
set_option maxRecDepth 100000 in
theorem lifted (os:Os) (started:os.Started) (H:Type) (enc:TypeId×Value->H):
    ReturnsInHanded {} Try.checked os 8 .any (Rows.fnCostSumSpec.pre6 enc Try.prog Try.f8 Rows.fnCostSumRow.domain false) (Rows.fnCostSumSpec.post enc Try.prog Try.f8 false true false false):=by
  refine returnsInHanded_of_change (C:=Try.checked) own started (by kernel_rfl) Try.func8
    (ChangeSpec.witness6 (enc:=enc) (C:=Try.checked) false ⟨#[],#[.slice none 0 0],[]⟩ 8 (by kernel_rfl) (by kernel_rfl) (by kernel_rfl) (by kernel_rfl)) ?_
  intro W base args ds gs before hval hW _ _
  have hsz:Try.f8.params.size=1:=by kernel_rfl
  exact law_post (P:=Try.prog) (fn:=Try.f8) (sg:=sg8) (F:=fn8) (tb:=4) (by kernel_rfl) (by kernel_rfl) (by kernel_rfl) (by kernel_rfl) rfl rfl Try.underlying4 rfl
    (fun ds h=>by rw [hsz] at h;match ds,h with | [_],_=>rfl) law spec8 W base args ds gs before hval hW
theorem facts:joinedFacts Try.prog 8 Try.f8 Rows.fnCostSumSpec Rows.fnCostSumRow=true:=by
  unfold joinedFacts
  rw [Ini.enter,Ini.lifts,Ini.make]
  kernel_rfl
theorem over:Rows.fnCostSumRow.holds Try.pinned (OpenSpec.ofChange Rows.fnCostSumSpec):=
  OpenClaim.holds_of_wide 8 Try.f8 rfl rfl rfl rfl rfl rfl rfl ⟨rfl,rfl,rfl,rfl,rfl⟩ rfl rfl rfl rfl rfl (by kernel_rfl) Try.func8 facts
    (of_decide_eq_true (by kernel_rfl)) (by unfold Func.isWrapper;first | (rw [if_pos (by decide+kernel)];kernel_rfl) | (rw [if_neg (by decide+kernel)];exact ⟨rfl,rfl⟩))
    (fun os started H enc _=>lifted os started H enc)
theorem proved:Rows.FnCostSumSaid:=over
end fnCostSum
end Go.Proofs.Ytjpkedhcbnklmaa
