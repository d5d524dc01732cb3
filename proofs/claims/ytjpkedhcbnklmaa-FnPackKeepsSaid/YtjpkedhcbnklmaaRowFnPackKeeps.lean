/-
  Proved here: the law FnPackKeeps returns true for all arguments and leaves them as they were. No further condition.
-/
import Derived.Test.YtjpkedhcbnklmaaQ1
import Derived.Test.YtjpkedhcbnklmaaEFnPackKeeps
import Derived.Test.YtjpkedhcbnklmaaIni
import Derived.Test.YtjpkedhcbnklmaaRows
namespace Go.Proofs.Ytjpkedhcbnklmaa
open Go Go.Pu Go.Proofs Go.ChangeShapes Go.WideShapes Go.ChangeAt Go.RowKit
set_option linter.unusedVariables false
namespace fnPackKeeps
theorem own:ownKnob Try.prog.godebug=none:=by kernel_rfl
theorem law (x:sg7.p.den)(h:InR sg7.p x):∃y:sg7.r.den,Pf.laws_FnPackKeeps x=some y/\V.c ⟨sg7.r,y⟩= .bool true:=
 ⟨true,Pf.law_FnPackKeeps x h,rfl⟩
set_option maxRecDepth 100000 in
theorem lifted (os:Os)(started:os.Started)(H:Type)(enc:TypeId×Value->H):
 ReturnsInHanded {} Try.checked os 7 .any (Rows.fnPackKeepsSpec.pre6 enc Try.prog Try.f7 Rows.fnPackKeepsRow.domain false) (Rows.fnPackKeepsSpec.post enc Try.prog Try.f7 false true false false):=by
 refine returnsInHanded_of_change (C:=Try.checked) own started (by kernel_rfl) Try.func7
  (ChangeSpec.witness6 (enc:=enc) (C:=Try.checked) false ⟨#[],#[.slice none 0 0],[]⟩ 8 (by kernel_rfl) (by kernel_rfl) (by kernel_rfl) (by kernel_rfl)) ?_
 intro W base args ds gs before hval hW _ _;have hsz:Try.f7.params.size=1:=by kernel_rfl
 exact law_post (P:=Try.prog) (fn:=Try.f7) (sg:=sg7) (F:=Pf.laws_FnPackKeeps) (tb:=4) (by kernel_rfl) (by kernel_rfl) (by kernel_rfl) (by kernel_rfl) rfl rfl Try.underlying4 rfl
  (fun ds h=>by rw[hsz]at h;match ds,h with | [_],_=>rfl) law c7.ok W base args ds gs before hval hW
theorem facts:joinedFacts Try.prog 7 Try.f7 Rows.fnPackKeepsSpec Rows.fnPackKeepsRow=true:=by
 unfold joinedFacts;rw[Ini.enter,Ini.lifts,Ini.make]
 kernel_rfl
theorem over:Rows.fnPackKeepsRow.holds Try.pinned (OpenSpec.ofChange Rows.fnPackKeepsSpec):=
 OpenClaim.holds_of_wide 7 Try.f7 rfl rfl rfl rfl rfl rfl rfl ⟨rfl,rfl,rfl,rfl,rfl⟩ rfl rfl rfl rfl rfl (by kernel_rfl) Try.func7 facts
  (of_decide_eq_true (by kernel_rfl)) (by unfold Func.isWrapper;first | (rw[if_pos (by decide+kernel)];kernel_rfl) | (rw[if_neg (by decide+kernel)];exact⟨rfl,rfl⟩))
  (fun os started H enc _=>lifted os started H enc)
theorem proved:Rows.FnPackKeepsSaid:=over
end fnPackKeeps
end Go.Proofs.Ytjpkedhcbnklmaa
