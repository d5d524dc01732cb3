/-
  Proved here: the law FnFoundRefutation returns true for all arguments and leaves them as they were. No further condition.
-/
import Derived.Test.YthjfdjekombkkaaGreatQ3
import Derived.Test.YthjfdjekombkkaaGreatEFnFoundRefutation
import Derived.Test.YthjfdjekombkkaaGreatIni
import Derived.Test.YthjfdjekombkkaaGreatRows
namespace Go.Proofs.YthjfdjekombkkaaGreat
open Go Go.Pu Go.Proofs Go.ChangeShapes Go.WideShapes Go.ChangeAt Go.RowKit
set_option linter.unusedVariables false
namespace fnFoundRefutation
theorem own:ownKnob Tryz.prog.godebug=none:=by kernel_rfl
theorem law (x:sg4.p.den)(h:InR sg4.p x):∃y:sg4.r.den,Pf.C4 x=some y/\V.c ⟨sg4.r,y⟩= .bool true:=
 ⟨true,Pf.Ra x h,rfl⟩
set_option maxRecDepth 100000 in
theorem lifted (os:Os)(started:os.Started)(H:Type)(enc:TypeId×Value->H):
 ReturnsInHanded {} Tryz.checked os 4 .any (Rows.fnFoundRefutationSpec.pre6 enc Tryz.prog Tryz.f4 Rows.fnFoundRefutationRow.domain false) (Rows.fnFoundRefutationSpec.post enc Tryz.prog Tryz.f4 false true false false):=by
 refine returnsInHanded_of_change (C:=Tryz.checked) own started (by kernel_rfl) Tryz.func4
  (ChangeSpec.witness6 (enc:=enc) (C:=Tryz.checked) false ⟨#[],#[.slice none 0 0],[]⟩ 8 (by kernel_rfl) (by kernel_rfl) (by kernel_rfl) (by kernel_rfl)) ?_
 intro W base args ds gs before hval hW _ _;have hsz:Tryz.f4.params.size=1:=by kernel_rfl
 exact Ast (P:=Tryz.prog) (fn:=Tryz.f4) (sg:=sg4) (F:=Pf.C4) (tb:=4) (by kernel_rfl) (by kernel_rfl) (by kernel_rfl) (by kernel_rfl) rfl rfl Tryz.underlying4 rfl
  (fun ds h=>by rw[hsz]at h;match ds,h with | [_],_=>rfl) law c4.ok W base args ds gs before hval hW
theorem facts:joinedFacts Tryz.prog 4 Tryz.f4 Rows.fnFoundRefutationSpec Rows.fnFoundRefutationRow=true:=by
 unfold joinedFacts;rw[Ini.enter,Ini.lifts,Ini.make]
 kernel_rfl
theorem over:Rows.fnFoundRefutationRow.holds Tryz.pinned (OpenSpec.ofChange Rows.fnFoundRefutationSpec):=
 OpenClaim.holds_of_wide 4 Tryz.f4 rfl rfl rfl rfl rfl rfl rfl ⟨rfl,rfl,rfl,rfl,rfl⟩ rfl rfl rfl rfl rfl (by kernel_rfl) Tryz.func4 facts
  (of_decide_eq_true (by kernel_rfl)) (by unfold Func.isWrapper;first | (rw[if_pos (by decide+kernel)];kernel_rfl) | (rw[if_neg (by decide+kernel)];exact⟨rfl,rfl⟩))
  (fun os started H enc _=>lifted os started H enc)
theorem proved:Rows.FnFoundRefutationSaid:=over
end fnFoundRefutation
end Go.Proofs.YthjfdjekombkkaaGreat
