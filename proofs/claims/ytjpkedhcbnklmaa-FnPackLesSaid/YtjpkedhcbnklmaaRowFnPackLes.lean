/-
  Proved here: the law FnPackLes returns true for all arguments and leaves them as they were. No further condition.
-/
import Derived.Test.YtjpkedhcbnklmaaQ2
import Derived.Test.YtjpkedhcbnklmaaEFnPackLes
import Derived.Test.YtjpkedhcbnklmaaIni
import Derived.Test.YtjpkedhcbnklmaaRows
namespace Go.Proofs.Ytjpkedhcbnklmaa
open Go Go.Pu Go.Proofs Go.ChangeShapes Go.WideShapes Go.ChangeAt Go.RowKit
set_option linter.unusedVariables false
namespace fnPackLes
theorem own:ownKnob Try.prog.godebug=none:=by kernel_rfl
theorem law (x:sg9.p.den)(h:InR sg9.p x):∃y:sg9.r.den,Pf.laws_FnPackLes x=some y/\V.c ⟨sg9.r,y⟩= .bool true:=
 ⟨true,Pf.law_FnPackLes x h,rfl⟩
set_option maxRecDepth 100000 in
theorem lifted (os:Os)(started:os.Started)(H:Type)(enc:TypeId×Value->H):
 ReturnsInHanded {} Try.checked os 9 .any (Rows.fnPackLesSpec.pre6 enc Try.prog Try.f9 Rows.fnPackLesRow.domain false) (Rows.fnPackLesSpec.post enc Try.prog Try.f9 false true false false):=by
 refine returnsInHanded_of_change (C:=Try.checked) own started (by kernel_rfl) Try.func9
  (ChangeSpec.witness6 (enc:=enc) (C:=Try.checked) false ⟨#[],#[.slice none 0 0],[]⟩ 8 (by kernel_rfl) (by kernel_rfl) (by kernel_rfl) (by kernel_rfl)) ?_
 intro W base args ds gs before hval hW _ _;have hsz:Try.f9.params.size=1:=by kernel_rfl
 exact law_post (P:=Try.prog) (fn:=Try.f9) (sg:=sg9) (F:=Pf.laws_FnPackLes) (tb:=4) (by kernel_rfl) (by kernel_rfl) (by kernel_rfl) (by kernel_rfl) rfl rfl Try.underlying4 rfl
  (fun ds h=>by rw[hsz]at h;match ds,h with | [_],_=>rfl) law c9.ok W base args ds gs before hval hW
theorem facts:joinedFacts Try.prog 9 Try.f9 Rows.fnPackLesSpec Rows.fnPackLesRow=true:=by
 unfold joinedFacts;rw[Ini.enter,Ini.lifts,Ini.make]
 kernel_rfl
theorem over:Rows.fnPackLesRow.holds Try.pinned (OpenSpec.ofChange Rows.fnPackLesSpec):=
 OpenClaim.holds_of_wide 9 Try.f9 rfl rfl rfl rfl rfl rfl rfl ⟨rfl,rfl,rfl,rfl,rfl⟩ rfl rfl rfl rfl rfl (by kernel_rfl) Try.func9 facts
  (of_decide_eq_true (by kernel_rfl)) (by unfold Func.isWrapper;first | (rw[if_pos (by decide+kernel)];kernel_rfl) | (rw[if_neg (by decide+kernel)];exact⟨rfl,rfl⟩))
  (fun os started H enc _=>lifted os started H enc)
theorem proved:Rows.FnPackLesSaid:=over
end fnPackLes
end Go.Proofs.Ytjpkedhcbnklmaa
