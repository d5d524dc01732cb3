/-
  Proved here: the law FnRouterLegal returns true for all arguments and leaves them as they were. No further condition.
-/
import Derived.Test.YthjfdjekombkkaaGreatQ3
import Derived.Test.YthjfdjekombkkaaGreatEFnRouterLegal
import Derived.Test.YthjfdjekombkkaaGreatIni
import Derived.Test.YthjfdjekombkkaaGreatRows
namespace Go.Proofs.YthjfdjekombkkaaGreat
open Go Go.Pu Go.Proofs Go.ChangeShapes Go.WideShapes Go.ChangeAt Go.RowKit
set_option linter.unusedVariables false
namespace fnRouterLegal
theorem own:ownKnob Tryz.prog.godebug=none:=by kernel_rfl
theorem law (x:sg3.p.den)(h:InR sg3.p x):∃y:sg3.r.den,Pf.laws_FnRouterLegal x=some y/\V.c ⟨sg3.r,y⟩= .bool true:=
 ⟨true,Pf.law_FnRouterLegal x h,rfl⟩
set_option maxRecDepth 100000 in
theorem lifted (os:Os)(started:os.Started)(H:Type)(enc:TypeId×Value->H):
 ReturnsInHanded {} Tryz.checked os 3 .any (Rows.fnRouterLegalSpec.pre6 enc Tryz.prog Tryz.f3 Rows.fnRouterLegalRow.domain false) (Rows.fnRouterLegalSpec.post enc Tryz.prog Tryz.f3 false true false false):=by
 refine returnsInHanded_of_change (C:=Tryz.checked) own started (by kernel_rfl) Tryz.func3
  (ChangeSpec.witness6 (enc:=enc) (C:=Tryz.checked) false ⟨#[],#[.slice none 0 0],[]⟩ 8 (by kernel_rfl) (by kernel_rfl) (by kernel_rfl) (by kernel_rfl)) ?_
 intro W base args ds gs before hval hW _ _;have hsz:Tryz.f3.params.size=1:=by kernel_rfl
 exact law_post (P:=Tryz.prog) (fn:=Tryz.f3) (sg:=sg3) (F:=Pf.laws_FnRouterLegal) (tb:=4) (by kernel_rfl) (by kernel_rfl) (by kernel_rfl) (by kernel_rfl) rfl rfl Tryz.underlying4 rfl
  (fun ds h=>by rw[hsz]at h;match ds,h with | [_],_=>rfl) law c3.ok W base args ds gs before hval hW
theorem facts:joinedFacts Tryz.prog 3 Tryz.f3 Rows.fnRouterLegalSpec Rows.fnRouterLegalRow=true:=by
 unfold joinedFacts;rw[Ini.enter,Ini.lifts,Ini.make]
 kernel_rfl
theorem over:Rows.fnRouterLegalRow.holds Tryz.pinned (OpenSpec.ofChange Rows.fnRouterLegalSpec):=
 OpenClaim.holds_of_wide 3 Tryz.f3 rfl rfl rfl rfl rfl rfl rfl ⟨rfl,rfl,rfl,rfl,rfl⟩ rfl rfl rfl rfl rfl (by kernel_rfl) Tryz.func3 facts
  (of_decide_eq_true (by kernel_rfl)) (by unfold Func.isWrapper;first | (rw[if_pos (by decide+kernel)];kernel_rfl) | (rw[if_neg (by decide+kernel)];exact⟨rfl,rfl⟩))
  (fun os started H enc _=>lifted os started H enc)
theorem proved:Rows.FnRouterLegalSaid:=over
end fnRouterLegal
end Go.Proofs.YthjfdjekombkkaaGreat
