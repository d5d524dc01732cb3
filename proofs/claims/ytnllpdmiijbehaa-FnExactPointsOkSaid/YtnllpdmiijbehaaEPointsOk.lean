/-
  Own work, printed by my tool: signatures, annotations and the compiled statements of the functions that the law reaches; each one's contract.
-/
import Derived.Test.YtnllpdmiijbehaaD
import Derived.Test.YtnllpdmiijbehaaProg
namespace Go.Proofs.Ytnllpdmiijbehaa
open Go Go.Pu Go.Proofs
theorem follows : Try.prog.follows .mixedOrders = true := by kernel_rfl
-- laws.szPointS
def sg24 : Sig := ⟨24,24,[.val i0 (tS 84 (tP tI tI)),.val i0 tI],[.val i0 tI i1]⟩
def an24 : Ann := ⟨12,[],[],[],[],[]⟩
def st24 : Stm := sB (.len (aR 0 [i0])) <| sB (.bin .sub i6 (aR 0 [i1]) (aV 1)) <| sB (.cmp .lt i6 (aV 2) (aI 0)) <| sI (aV 3) (sR tI [(aI (-1))]) <| sR tI [(aV 2)]
noncomputable def fn24 (x : sg24.p.den) : Option sg24.r.den := st24.den [] [] sg24.r [⟨sg24.p, x⟩]
theorem spec24 : CallSpec Try.prog sg24 fn24 := spec (ss := []) (an := an24) (stm := st24) follows (Specs.nil) (by kernel_rfl) (by kernel_rfl) (fun _ => rfl)
theorem eq24 : fn24 = Pf.laws_szPointS := by kernel_rfl
-- impl.inRange
def sg47 : Sig := ⟨47,47,[.val i0 tI,.val i0 tI,.val i0 tI],[.val i0 tB i1]⟩
def an47 : Ann := ⟨15,[],[],[],[],[]⟩
def st47 : Stm := sB (.cmp .ge i6 (aR 0 [i0]) (aR 0 [i1,i0])) <| sI (aV 1) (sB (.cmp .le i6 (aR 0 [i0]) (aR 0 [i1,i1])) <| sR tB [(aV 2)]) <| sR tB [(.bool false)]
noncomputable def fn47 (x : sg47.p.den) : Option sg47.r.den := st47.den [] [] sg47.r [⟨sg47.p, x⟩]
theorem spec47 : CallSpec Try.prog sg47 fn47 := spec (ss := []) (an := an47) (stm := st47) follows (Specs.nil) (by kernel_rfl) (by kernel_rfl) (fun _ => rfl)
theorem eq47 : fn47 = Pf.impl_inRange := by kernel_rfl
-- laws.szArcS
def sg50 : Sig := ⟨50,50,[.val i0 (tS 100 (tP tI (tP tI tI))),.val i0 tI],[.val i0 tI i1]⟩
def an50 : Ann := ⟨12,[],[],[],[],[]⟩
def st50 : Stm := sB (.len (aR 0 [i0])) <| sB (.bin .sub i6 (aR 0 [i1]) (aV 1)) <| sB (.cmp .lt i6 (aV 2) (aI 0)) <| sI (aV 3) (sR tI [(aI (-1))]) <| sR tI [(aV 2)]
noncomputable def fn50 (x : sg50.p.den) : Option sg50.r.den := st50.den [] [] sg50.r [⟨sg50.p, x⟩]
theorem spec50 : CallSpec Try.prog sg50 fn50 := spec (ss := []) (an := an50) (stm := st50) follows (Specs.nil) (by kernel_rfl) (by kernel_rfl) (fun _ => rfl)
theorem eq50 : fn50 = Pf.laws_szArcS := by kernel_rfl
-- spec.l01In
def sg54 : Sig := ⟨54,54,[.val i0 tI,.val i0 tI,.val i0 tI],[.val i0 tB i1]⟩
def an54 : Ann := ⟨15,[],[],[],[],[]⟩
def st54 : Stm := sB (.cmp .ge i6 (aR 0 [i0]) (aR 0 [i1,i0])) <| sI (aV 1) (sB (.cmp .le i6 (aR 0 [i0]) (aR 0 [i1,i1])) <| sR tB [(aV 2)]) <| sR tB [(.bool false)]
noncomputable def fn54 (x : sg54.p.den) : Option sg54.r.den := st54.den [] [] sg54.r [⟨sg54.p, x⟩]
theorem spec54 : CallSpec Try.prog sg54 fn54 := spec (ss := []) (an := an54) (stm := st54) follows (Specs.nil) (by kernel_rfl) (by kernel_rfl) (fun _ => rfl)
theorem eq54 : fn54 = Pf.spec_l01In := by kernel_rfl
-- laws.toPoint
def sg55 : Sig := ⟨55,55,[.val i1 (tP tI tI)],[.val i1 (tP tI tI) i1]⟩
def an55 : Ann := ⟨11,[],[],[],[],[]⟩
def st55 : Stm := sR (tP tI tI) [(aR 0 [i0]),(aR 0 [i1])]
noncomputable def fn55 (x : sg55.p.den) : Option sg55.r.den := st55.den [] [] sg55.r [⟨sg55.p, x⟩]
theorem spec55 : CallSpec Try.prog sg55 fn55 := spec (ss := []) (an := an55) (stm := st55) follows (Specs.nil) (by kernel_rfl) (by kernel_rfl) (fun _ => rfl)
theorem eq55 : fn55 = Pf.laws_toPoint := by kernel_rfl
-- laws.eqPoint
def sg56 : Sig := ⟨56,56,[.val i1 (tP tI tI),.val i1 (tP tI tI)],[.val i0 tB i1]⟩
def an56 : Ann := ⟨15,[],[],[],[],[]⟩
def st56 : Stm := sB (.cmp .ne i6 (aR 0 [i0,i0]) (aR 0 [i1,i0])) <| sI (aV 1) (sR tB [(.bool false)]) <| sB (.cmp .ne i6 (aR 0 [i0,i1]) (aR 0 [i1,i1])) <| sI (aV 2) (sR tB [(.bool false)]) <| sR tB [(.bool true)]
noncomputable def fn56 (x : sg56.p.den) : Option sg56.r.den := st56.den [] [] sg56.r [⟨sg56.p, x⟩]
theorem spec56 : CallSpec Try.prog sg56 fn56 := spec (ss := []) (an := an56) (stm := st56) follows (Specs.nil) (by kernel_rfl) (by kernel_rfl) (fun _ => rfl)
theorem eq56 : fn56 = Pf.laws_eqPoint := by kernel_rfl
-- laws.toArc
def sg69 : Sig := ⟨69,69,[.val i1 (tP tI (tP tI tI))],[.val i1 (tP tI (tP tI tI)) i1]⟩
def an69 : Ann := ⟨14,[],[],[],[],[]⟩
def st69 : Stm := sR (tP tI (tP tI tI)) [(aR 0 [i0]),(aR 0 [i1,i0]),(aR 0 [i1,i1])]
noncomputable def fn69 (x : sg69.p.den) : Option sg69.r.den := st69.den [] [] sg69.r [⟨sg69.p, x⟩]
theorem spec69 : CallSpec Try.prog sg69 fn69 := spec (ss := []) (an := an69) (stm := st69) follows (Specs.nil) (by kernel_rfl) (by kernel_rfl) (fun _ => rfl)
theorem eq69 : fn69 = Pf.laws_toArc := by kernel_rfl
-- laws.eqArc
def sg70 : Sig := ⟨70,70,[.val i1 (tP tI (tP tI tI)),.val i1 (tP tI (tP tI tI))],[.val i0 tB i1]⟩
def an70 : Ann := ⟨20,[],[],[],[],[]⟩
def st70 : Stm := sB (.cmp .ne i6 (aR 0 [i0,i0]) (aR 0 [i1,i0])) <| sI (aV 1) (sR tB [(.bool false)]) <| sB (.cmp .ne i6 (aR 0 [i0,i1,i0]) (aR 0 [i1,i1,i0])) <| sI (aV 2) (sR tB [(.bool false)]) <| sB (.cmp .ne i6 (aR 0 [i0,i1,i1]) (aR 0 [i1,i1,i1])) <| sI (aV 3) (sR tB [(.bool false)]) <| sR tB [(.bool true)]
noncomputable def fn70 (x : sg70.p.den) : Option sg70.r.den := st70.den [] [] sg70.r [⟨sg70.p, x⟩]
theorem spec70 : CallSpec Try.prog sg70 fn70 := spec (ss := []) (an := an70) (stm := st70) follows (Specs.nil) (by kernel_rfl) (by kernel_rfl) (fun _ => rfl)
theorem eq70 : fn70 = Pf.laws_eqArc := by kernel_rfl
-- impl.TimingOk
def sg15 : Sig := ⟨15,15,[.val i1 (tP tI (tS 37 (tP tI (tP tI tI))))],[.val i0 tB i1]⟩
def an15 : Ann := ⟨45,[],[],[(0,tI,[(1,(.c (.h 0))),(16,(.c (.s none (aR 0 [i1])))),(17,(sW (aV 5))),(18,(sW (aV 6)))],[(.box 26 [(sV (aR 0 [i0])),(.s none (aR 0 [i1]))])])],[],[]⟩
def st15 : Stm := sB (.call 47 [(aR 0 [i0]),(aI 0),(aI 500)]) <| sB (.not (aV 1)) <| sI (aV 2) (sR tB [(.bool false)]) <| sB (.len (aR 0 [i1])) <| sB (.cmp .gt i6 (aV 3) (aI 2000)) <| sI (aV 4) (sR tB [(.bool false)]) <| sB (.len (aR 0 [i1])) <| sL tI [(aI 0)] <| sB (.cmp .lt i6 (aV 6) (aV 5)) <| sI (aV 7) (sB (.get (aR 0 [i1]) (aV 6)) <| sB (.bin .sub i6 (aR 0 [i0]) (aI 1)) <| sB (.call 47 [(aR 8 [i1,i0]),(aI 0),(aV 9)]) <| sB (.not (aV 10)) <| sI (aV 11) (sU <| sR tB [(.bool false)]) <| sB (.bin .sub i6 (aR 8 [i1,i0]) (aI 1)) <| sB (.call 47 [(aR 8 [i0]),(aI 0),(aV 12)]) <| sB (.not (aV 13)) <| sI (aV 14) (sU <| sR tB [(.bool false)]) <| sB (.call 47 [(aR 8 [i1,i1]),(aI 0),(aI 100)]) <| sB (.not (aV 15)) <| sI (aV 16) (sU <| sR tB [(.bool false)]) <| sB (.bin .add i6 (aV 6) (aI 1)) <| sN tI [(aV 17)]) <| sU <| sR tB [(.bool true)]
noncomputable def fn15 (x : sg15.p.den) : Option sg15.r.den := st15.den [⟨sg47.key, sg47.p, sg47.r, fn47⟩] [] sg15.r [⟨sg15.p, x⟩]
theorem spec15 : CallSpec Try.prog sg15 fn15 := spec (ss := [sg47]) (an := an15) (stm := st15) follows (Specs.cons spec47 (Specs.nil) (by kernel_rfl)) (by kernel_rfl) (by kernel_rfl) (fun _ => rfl)
theorem eq15 : fn15 = Pf.impl_TimingOk := by kernel_rfl
-- laws.szTimingGraph
def sg17 : Sig := ⟨17,17,[.val i1 (tP tI (tS 100 (tP tI (tP tI tI)))),.val i0 tI],[.val i0 tI i1]⟩
def an17 : Ann := ⟨12,[],[],[],[],[]⟩
def st17 : Stm := sB (.call 50 [(aR 0 [i0,i1]),(aR 0 [i1])]) <| sB (.cmp .lt i6 (aV 1) (aI 0)) <| sI (aV 2) (sR tI [(aI (-1))]) <| sR tI [(aV 1)]
noncomputable def fn17 (x : sg17.p.den) : Option sg17.r.den := st17.den [⟨sg50.key, sg50.p, sg50.r, fn50⟩] [] sg17.r [⟨sg17.p, x⟩]
theorem spec17 : CallSpec Try.prog sg17 fn17 := spec (ss := [sg50]) (an := an17) (stm := st17) follows (Specs.cons spec50 (Specs.nil) (by kernel_rfl)) (by kernel_rfl) (by kernel_rfl) (fun _ => rfl)
theorem eq17 : fn17 = Pf.laws_szTimingGraph := by kernel_rfl
-- laws.toPointS
def sg26 : Sig := ⟨26,26,[.val i0 (tS 84 (tP tI tI))],[.val i0 (tS 32 (tP tI tI)) i0]⟩
def an26 : Ann := ⟨23,[],[],[(0,(tP tI (tS 32 (tP tI tI))),[(0,(.c (.s none (aV 0)))),(3,(.c (.h 0))),(4,(sW (aR 3 [i0])))],[(.list 32 (tP tI tI) (aR 3 [i1]) i0 none)])],[],[]⟩
def st26 : Stm := sB (.len (aV 0)) <| sB (.make 16 32 (tP tI tI) (aV 1)) <| sL (tP tI (tS 32 (tP tI tI))) [(aI 0),(aV 2)] <| sB (.len (aV 0)) <| sB (.cmp .lt i6 (aR 3 [i0]) (aV 4)) <| sI (aV 5) (sB (.get (aV 0) (aR 3 [i0])) <| sB (.call 55 [(aR 6 [i0]),(aR 6 [i1])]) <| sB (.idx (aR 3 [i1]) (aR 3 [i0])) <| sB (.get (aR 3 [i1]) (aR 3 [i0])) <| sB (.mk (tP tI tI) [(aR 7 [i0]),(aR 7 [i1])]) <| sB (.set (aR 3 [i1]) (aR 3 [i0]) (aV 10)) <| sB (.bin .add i6 (aR 3 [i0]) (aI 1)) <| sN (tP tI (tS 32 (tP tI tI))) [(aV 12),(aV 11)]) <| sU <| sR (tS 32 (tP tI tI)) [(aR 3 [i1])]
noncomputable def fn26 (x : sg26.p.den) : Option sg26.r.den := st26.den [⟨sg55.key, sg55.p, sg55.r, fn55⟩] [] sg26.r [⟨sg26.p, x⟩]
theorem spec26 : CallSpec Try.prog sg26 fn26 := spec (ss := [sg55]) (an := an26) (stm := st26) follows (Specs.cons spec55 (Specs.nil) (by kernel_rfl)) (by kernel_rfl) (by kernel_rfl) (fun _ => rfl)
theorem eq26 : fn26 = Pf.laws_toPointS := by kernel_rfl
-- laws.eqPointS
def sg27 : Sig := ⟨27,27,[.val i0 (tS 32 (tP tI tI)),.val i0 (tS 32 (tP tI tI))],[.val i0 tB i1]⟩
def an27 : Ann := ⟨27,[(6,[0,1,2,3,4,5,6,7,8,9])],[],[(0,tI,[(0,(.c (.s none (aR 0 [i0])))),(1,(.c (.s none (aR 0 [i1])))),(5,(sW (aV 4)))],[])],[],[]⟩
def st27 : Stm := sB (.len (aR 0 [i0])) <| sB (.len (aR 0 [i1])) <| sB (.cmp .ne i6 (aV 1) (aV 2)) <| sI (aV 3) (sR tB [(.bool false)]) <| sL tI [(aI 0)] <| sB (.len (aR 0 [i0])) <| sB (.cmp .lt i6 (aV 4) (aV 5)) <| sI (aV 6) (sB (.get (aR 0 [i0]) (aV 4)) <| sB (.get (aR 0 [i1]) (aV 4)) <| sB (.call 56 [(aR 7 [i0]),(aR 7 [i1]),(aR 8 [i0]),(aR 8 [i1])]) <| sB (.not (aV 9)) <| sI (aV 10) (sU <| sR tB [(.bool false)]) <| sB (.bin .add i6 (aV 4) (aI 1)) <| sN tI [(aV 11)]) <| sU <| sR tB [(.bool true)]
noncomputable def fn27 (x : sg27.p.den) : Option sg27.r.den := st27.den [⟨sg56.key, sg56.p, sg56.r, fn56⟩] [] sg27.r [⟨sg27.p, x⟩]
theorem spec27 : CallSpec Try.prog sg27 fn27 := spec (ss := [sg56]) (an := an27) (stm := st27) follows (Specs.cons spec56 (Specs.nil) (by kernel_rfl)) (by kernel_rfl) (by kernel_rfl) (fun _ => rfl)
theorem eq27 : fn27 = Pf.laws_eqPointS := by kernel_rfl
-- spec.TimingOk
def sg51 : Sig := ⟨51,51,[.val i1 (tP tI (tS 37 (tP tI (tP tI tI))))],[.val i0 tB i1]⟩
def an51 : Ann := ⟨50,[],[],[(0,tI,[(1,(.c (.h 0))),(3,(sW (aV 5)))],[(.box 26 [(sV (aR 0 [i0])),(.s none (aR 0 [i1]))])])],[],[]⟩
def st51 : Stm := sB (.call 54 [(aR 0 [i0]),(aI 0),(aI 500)]) <| sB (.not (aV 1)) <| sI (aV 2) (sR tB [(.bool false)]) <| sB (.len (aR 0 [i1])) <| sB (.cmp .gt i6 (aV 3) (aI 2000)) <| sI (aV 4) (sR tB [(.bool false)]) <| sL tI [(aI 0)] <| sB (.len (aR 0 [i1])) <| sB (.cmp .lt i6 (aV 5) (aV 6)) <| sI (aV 7) (sB (.get (aR 0 [i1]) (aV 5)) <| sB (.cmp .lt i6 (aR 8 [i0]) (aI 0)) <| sI (aV 9) (sU <| sR tB [(.bool false)]) <| sB (.cmp .ge i6 (aR 8 [i0]) (aR 8 [i1,i0])) <| sI (aV 10) (sU <| sR tB [(.bool false)]) <| sB (.cmp .ge i6 (aR 8 [i1,i0]) (aR 0 [i0])) <| sI (aV 11) (sU <| sR tB [(.bool false)]) <| sB (.call 54 [(aR 8 [i1,i1]),(aI 0),(aI 100)]) <| sB (.not (aV 12)) <| sI (aV 13) (sU <| sR tB [(.bool false)]) <| sB (.bin .add i6 (aV 5) (aI 1)) <| sN tI [(aV 14)]) <| sU <| sR tB [(.bool true)]
noncomputable def fn51 (x : sg51.p.den) : Option sg51.r.den := st51.den [⟨sg54.key, sg54.p, sg54.r, fn54⟩] [] sg51.r [⟨sg51.p, x⟩]
theorem spec51 : CallSpec Try.prog sg51 fn51 := spec (ss := [sg54]) (an := an51) (stm := st51) follows (Specs.cons spec54 (Specs.nil) (by kernel_rfl)) (by kernel_rfl) (by kernel_rfl) (fun _ => rfl)
theorem eq51 : fn51 = Pf.spec_TimingOk := by kernel_rfl
-- laws.toArcS
def sg52 : Sig := ⟨52,52,[.val i0 (tS 100 (tP tI (tP tI tI)))],[.val i0 (tS 37 (tP tI (tP tI tI))) i0]⟩
def an52 : Ann := ⟨23,[],[],[(0,(tP tI (tS 37 (tP tI (tP tI tI)))),[(0,(.c (.s none (aV 0)))),(3,(.c (.h 0))),(4,(sW (aR 3 [i0])))],[(.list 37 (tP tI (tP tI tI)) (aR 3 [i1]) i0 none)])],[],[]⟩
def st52 : Stm := sB (.len (aV 0)) <| sB (.make 24 37 (tP tI (tP tI tI)) (aV 1)) <| sL (tP tI (tS 37 (tP tI (tP tI tI)))) [(aI 0),(aV 2)] <| sB (.len (aV 0)) <| sB (.cmp .lt i6 (aR 3 [i0]) (aV 4)) <| sI (aV 5) (sB (.get (aV 0) (aR 3 [i0])) <| sB (.call 69 [(aR 6 [i0]),(aR 6 [i1,i0]),(aR 6 [i1,i1])]) <| sB (.idx (aR 3 [i1]) (aR 3 [i0])) <| sB (.get (aR 3 [i1]) (aR 3 [i0])) <| sB (.mk (tP tI (tP tI tI)) [(aR 7 [i0]),(aR 7 [i1,i0]),(aR 7 [i1,i1])]) <| sB (.set (aR 3 [i1]) (aR 3 [i0]) (aV 10)) <| sB (.bin .add i6 (aR 3 [i0]) (aI 1)) <| sN (tP tI (tS 37 (tP tI (tP tI tI)))) [(aV 12),(aV 11)]) <| sU <| sR (tS 37 (tP tI (tP tI tI))) [(aR 3 [i1])]
noncomputable def fn52 (x : sg52.p.den) : Option sg52.r.den := st52.den [⟨sg69.key, sg69.p, sg69.r, fn69⟩] [] sg52.r [⟨sg52.p, x⟩]
theorem spec52 : CallSpec Try.prog sg52 fn52 := spec (ss := [sg69]) (an := an52) (stm := st52) follows (Specs.cons spec69 (Specs.nil) (by kernel_rfl)) (by kernel_rfl) (by kernel_rfl) (fun _ => rfl)
theorem eq52 : fn52 = Pf.laws_toArcS := by kernel_rfl
-- laws.eqArcS
def sg53 : Sig := ⟨53,53,[.val i0 (tS 37 (tP tI (tP tI tI))),.val i0 (tS 37 (tP tI (tP tI tI)))],[.val i0 tB i1]⟩
def an53 : Ann := ⟨27,[(6,[0,1,2,3,4,5,6,7,8,9])],[],[(0,tI,[(0,(.c (.s none (aR 0 [i0])))),(1,(.c (.s none (aR 0 [i1])))),(5,(sW (aV 4)))],[])],[],[]⟩
def st53 : Stm := sB (.len (aR 0 [i0])) <| sB (.len (aR 0 [i1])) <| sB (.cmp .ne i6 (aV 1) (aV 2)) <| sI (aV 3) (sR tB [(.bool false)]) <| sL tI [(aI 0)] <| sB (.len (aR 0 [i0])) <| sB (.cmp .lt i6 (aV 4) (aV 5)) <| sI (aV 6) (sB (.get (aR 0 [i0]) (aV 4)) <| sB (.get (aR 0 [i1]) (aV 4)) <| sB (.call 70 [(aR 7 [i0]),(aR 7 [i1,i0]),(aR 7 [i1,i1]),(aR 8 [i0]),(aR 8 [i1,i0]),(aR 8 [i1,i1])]) <| sB (.not (aV 9)) <| sI (aV 10) (sU <| sR tB [(.bool false)]) <| sB (.bin .add i6 (aV 4) (aI 1)) <| sN tI [(aV 11)]) <| sU <| sR tB [(.bool true)]
noncomputable def fn53 (x : sg53.p.den) : Option sg53.r.den := st53.den [⟨sg70.key, sg70.p, sg70.r, fn70⟩] [] sg53.r [⟨sg53.p, x⟩]
theorem spec53 : CallSpec Try.prog sg53 fn53 := spec (ss := [sg70]) (an := an53) (stm := st53) follows (Specs.cons spec70 (Specs.nil) (by kernel_rfl)) (by kernel_rfl) (by kernel_rfl) (fun _ => rfl)
theorem eq53 : fn53 = Pf.laws_eqArcS := by kernel_rfl
-- impl.PointsOk
def sg16 : Sig := ⟨16,16,[.val i1 (tP tI (tS 37 (tP tI (tP tI tI)))),.val i0 (tS 32 (tP tI tI))],[.val i0 tB i1]⟩
def an16 : Ann := ⟨35,[],[],[(0,tI,[(2,(.c (.h 0))),(15,(.c (.s none (aR 0 [i1])))),(16,(sW (aV 5))),(17,(sW (aV 6)))],[(.box 26 [(sV (aR 0 [i0,i0])),(.s none (aR 0 [i0,i1]))])])],[],[]⟩
def st16 : Stm := sB (.call 15 [(aR 0 [i0,i0]),(aR 0 [i0,i1])]) <| sB (.not (aV 1)) <| sI (aV 2) (sR tB [(.bool false)]) <| sB (.len (aR 0 [i1])) <| sB (.cmp .gt i6 (aV 3) (aI 100)) <| sI (aV 4) (sR tB [(.bool false)]) <| sB (.len (aR 0 [i1])) <| sL tI [(aI 0)] <| sB (.cmp .lt i6 (aV 6) (aV 5)) <| sI (aV 7) (sB (.get (aR 0 [i1]) (aV 6)) <| sB (.bin .sub i6 (aR 0 [i0,i0]) (aI 1)) <| sB (.call 47 [(aR 8 [i0]),(aI 0),(aV 9)]) <| sB (.not (aV 10)) <| sI (aV 11) (sU <| sR tB [(.bool false)]) <| sB (.call 47 [(aR 8 [i1]),(aI 0),(aI 50)]) <| sB (.not (aV 12)) <| sI (aV 13) (sU <| sR tB [(.bool false)]) <| sB (.bin .add i6 (aV 6) (aI 1)) <| sN tI [(aV 14)]) <| sU <| sR tB [(.bool true)]
noncomputable def fn16 (x : sg16.p.den) : Option sg16.r.den := st16.den [⟨sg15.key, sg15.p, sg15.r, fn15⟩, ⟨sg47.key, sg47.p, sg47.r, fn47⟩] [] sg16.r [⟨sg16.p, x⟩]
theorem spec16 : CallSpec Try.prog sg16 fn16 := spec (ss := [sg15, sg47]) (an := an16) (stm := st16) follows (Specs.cons spec15 (Specs.cons spec47 (Specs.nil) (by kernel_rfl)) (by kernel_rfl)) (by kernel_rfl) (by kernel_rfl) (fun _ => rfl)
theorem eq16 : fn16 = Pf.impl_PointsOk := by kernel_rfl
-- laws.toTimingGraph
def sg19 : Sig := ⟨19,19,[.val i1 (tP tI (tS 100 (tP tI (tP tI tI))))],[.val i1 (tP tI (tS 37 (tP tI (tP tI tI)))) i0]⟩
def an19 : Ann := ⟨12,[],[],[],[],[]⟩
def st19 : Stm := sB (.call 52 [(aR 0 [i1])]) <| sR (tP tI (tS 37 (tP tI (tP tI tI)))) [(aR 0 [i0]),(aV 1)]
noncomputable def fn19 (x : sg19.p.den) : Option sg19.r.den := st19.den [⟨sg52.key, sg52.p, sg52.r, fn52⟩] [] sg19.r [⟨sg19.p, x⟩]
theorem spec19 : CallSpec Try.prog sg19 fn19 := spec (ss := [sg52]) (an := an19) (stm := st19) follows (Specs.cons spec52 (Specs.nil) (by kernel_rfl)) (by kernel_rfl) (by kernel_rfl) (fun _ => rfl)
theorem eq19 : fn19 = Pf.laws_toTimingGraph := by kernel_rfl
-- laws.eqTimingGraph
def sg22 : Sig := ⟨22,22,[.val i1 (tP tI (tS 37 (tP tI (tP tI tI)))),.val i1 (tP tI (tS 37 (tP tI (tP tI tI))))],[.val i0 tB i1]⟩
def an22 : Ann := ⟨16,[],[],[],[],[]⟩
def st22 : Stm := sB (.cmp .ne i6 (aR 0 [i0,i0]) (aR 0 [i1,i0])) <| sI (aV 1) (sR tB [(.bool false)]) <| sB (.call 53 [(aR 0 [i0,i1]),(aR 0 [i1,i1])]) <| sB (.not (aV 2)) <| sI (aV 3) (sR tB [(.bool false)]) <| sR tB [(.bool true)]
noncomputable def fn22 (x : sg22.p.den) : Option sg22.r.den := st22.den [⟨sg53.key, sg53.p, sg53.r, fn53⟩] [] sg22.r [⟨sg22.p, x⟩]
theorem spec22 : CallSpec Try.prog sg22 fn22 := spec (ss := [sg53]) (an := an22) (stm := st22) follows (Specs.cons spec53 (Specs.nil) (by kernel_rfl)) (by kernel_rfl) (by kernel_rfl) (fun _ => rfl)
theorem eq22 : fn22 = Pf.laws_eqTimingGraph := by kernel_rfl
-- spec.PointsOk
def sg25 : Sig := ⟨25,25,[.val i1 (tP tI (tS 37 (tP tI (tP tI tI)))),.val i0 (tS 32 (tP tI tI))],[.val i0 tB i1]⟩
def an25 : Ann := ⟨45,[(6,[0,1,2,3,4,5,6,7,8,9,10,11,12,13,14,15,16,17,18,19,20,21,22,23,24])],[],[(0,tI,[(1,(.c (.s none (aR 0 [i1])))),(2,(.c (.h 0))),(5,(sW (aV 5)))],[(.box 26 [(sV (aR 0 [i0,i0])),(.s none (aR 0 [i0,i1]))])])],[],[]⟩
def st25 : Stm := sB (.call 51 [(aR 0 [i0,i0]),(aR 0 [i0,i1])]) <| sB (.not (aV 1)) <| sI (aV 2) (sR tB [(.bool false)]) <| sB (.len (aR 0 [i1])) <| sB (.cmp .gt i6 (aV 3) (aI 100)) <| sI (aV 4) (sR tB [(.bool false)]) <| sL tI [(aI 0)] <| sB (.len (aR 0 [i1])) <| sB (.cmp .lt i6 (aV 5) (aV 6)) <| sI (aV 7) (sB (.get (aR 0 [i1]) (aV 5)) <| sB (.cmp .lt i6 (aR 8 [i0]) (aI 0)) <| sI (aV 9) (sU <| sR tB [(.bool false)]) <| sB (.get (aR 0 [i1]) (aV 5)) <| sB (.cmp .ge i6 (aR 10 [i0]) (aR 0 [i0,i0])) <| sI (aV 11) (sU <| sR tB [(.bool false)]) <| sB (.get (aR 0 [i1]) (aV 5)) <| sB (.call 54 [(aR 12 [i1]),(aI 0),(aI 50)]) <| sB (.not (aV 13)) <| sI (aV 14) (sU <| sR tB [(.bool false)]) <| sB (.bin .add i6 (aV 5) (aI 1)) <| sN tI [(aV 15)]) <| sU <| sR tB [(.bool true)]
noncomputable def fn25 (x : sg25.p.den) : Option sg25.r.den := st25.den [⟨sg51.key, sg51.p, sg51.r, fn51⟩, ⟨sg54.key, sg54.p, sg54.r, fn54⟩] [] sg25.r [⟨sg25.p, x⟩]
theorem spec25 : CallSpec Try.prog sg25 fn25 := spec (ss := [sg51, sg54]) (an := an25) (stm := st25) follows (Specs.cons spec51 (Specs.cons spec54 (Specs.nil) (by kernel_rfl)) (by kernel_rfl)) (by kernel_rfl) (by kernel_rfl) (fun _ => rfl)
theorem eq25 : fn25 = Pf.spec_PointsOk := by kernel_rfl
-- laws.FnExactPointsOk
def sg5 : Sig := ⟨5,5,[.val i1 (tP tI (tS 100 (tP tI (tP tI tI)))),.val i0 (tS 84 (tP tI tI))],[.val i0 tB i1]⟩
def an5 : Ann := ⟨45,[(14,[0,1,2,3,4])],[],[],[],[]⟩
def st5 : Stm := sB (.call 17 [(aR 0 [i0,i0]),(aR 0 [i0,i1]),(aI 1048576)]) <| sB (.cmp .lt i6 (aV 1) (aI 0)) <| sI (aV 2) (sR tB [(.bool true)]) <| sB (.call 24 [(aR 0 [i1]),(aV 1)]) <| sB (.cmp .lt i6 (aV 3) (aI 0)) <| sI (aV 4) (sR tB [(.bool true)]) <| sB (.call 19 [(aR 0 [i0,i0]),(aR 0 [i0,i1])]) <| sB (.call 26 [(aR 0 [i1])]) <| sB (.call 25 [(aR 5 [i0]),(aR 5 [i1]),(aV 6)]) <| sB (.call 19 [(aR 0 [i0,i0]),(aR 0 [i0,i1])]) <| sB (.call 26 [(aR 0 [i1])]) <| sB (.call 16 [(aR 8 [i0]),(aR 8 [i1]),(aV 9)]) <| sB (.beq i1 (aV 10) (aV 7)) <| sI (aV 11) (sR tB [(.bool false)]) <| sB (.call 19 [(aR 0 [i0,i0]),(aR 0 [i0,i1])]) <| sB (.call 22 [(aR 8 [i0]),(aR 8 [i1]),(aR 12 [i0]),(aR 12 [i1])]) <| sB (.not (aV 13)) <| sI (aV 14) (sR tB [(.bool false)]) <| sB (.call 26 [(aR 0 [i1])]) <| sB (.call 27 [(aV 9),(aV 15)]) <| sB (.not (aV 16)) <| sI (aV 17) (sR tB [(.bool false)]) <| sR tB [(.bool true)]
noncomputable def fn5 (x : sg5.p.den) : Option sg5.r.den := st5.den [⟨sg17.key, sg17.p, sg17.r, fn17⟩, ⟨sg24.key, sg24.p, sg24.r, fn24⟩, ⟨sg19.key, sg19.p, sg19.r, fn19⟩, ⟨sg26.key, sg26.p, sg26.r, fn26⟩, ⟨sg25.key, sg25.p, sg25.r, fn25⟩, ⟨sg16.key, sg16.p, sg16.r, fn16⟩, ⟨sg22.key, sg22.p, sg22.r, fn22⟩, ⟨sg27.key, sg27.p, sg27.r, fn27⟩] [] sg5.r [⟨sg5.p, x⟩]
theorem spec5 : CallSpec Try.prog sg5 fn5 := spec (ss := [sg17, sg24, sg19, sg26, sg25, sg16, sg22, sg27]) (an := an5) (stm := st5) follows (Specs.cons spec17 (Specs.cons spec24 (Specs.cons spec19 (Specs.cons spec26 (Specs.cons spec25 (Specs.cons spec16 (Specs.cons spec22 (Specs.cons spec27 (Specs.nil) (by kernel_rfl)) (by kernel_rfl)) (by kernel_rfl)) (by kernel_rfl)) (by kernel_rfl)) (by kernel_rfl)) (by kernel_rfl)) (by kernel_rfl)) (by kernel_rfl) (by kernel_rfl) (fun _ => rfl)
theorem eq5 : fn5 = Pf.laws_FnExactPointsOk := by kernel_rfl
end Go.Proofs.Ytnllpdmiijbehaa
