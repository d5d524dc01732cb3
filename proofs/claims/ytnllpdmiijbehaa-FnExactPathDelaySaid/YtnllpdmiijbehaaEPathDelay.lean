/-
  Own work, printed by my tool: signatures, annotations and the compiled statements of the functions that the law reaches; each one's contract.
-/
import Derived.Test.YtnllpdmiijbehaaD
import Derived.Test.YtnllpdmiijbehaaProg
namespace Go.Proofs.Ytnllpdmiijbehaa
open Go Go.Pu Go.Proofs
theorem follows : Try.prog.follows .mixedOrders = true := by kernel_rfl
-- laws.toIntS
def sg20 : Sig := ⟨20,20,[.val i0 (tS 3 tI)],[.val i0 (tS 3 tI) i0]⟩
def an20 : Ann := ⟨22,[],[],[(0,(tP tI (tS 3 tI)),[(0,(.c (.s none (aV 0)))),(3,(.c (.h 0))),(4,(sW (aR 3 [i0])))],[(.list 3 tI (aR 3 [i1]) i0 none)])],[],[]⟩
def st20 : Stm := sB (.len (aV 0)) <| sB (.make 8 3 tI (aV 1)) <| sL (tP tI (tS 3 tI)) [(aI 0),(aV 2)] <| sB (.len (aV 0)) <| sB (.cmp .lt i6 (aR 3 [i0]) (aV 4)) <| sI (aV 5) (sB (.get (aV 0) (aR 3 [i0])) <| sB (.idx (aR 3 [i1]) (aR 3 [i0])) <| sB (.get (aR 3 [i1]) (aR 3 [i0])) <| sB (.mk tI [(aV 6)]) <| sB (.set (aR 3 [i1]) (aR 3 [i0]) (aV 9)) <| sB (.bin .add i6 (aR 3 [i0]) (aI 1)) <| sN (tP tI (tS 3 tI)) [(aV 11),(aV 10)]) <| sU <| sR (tS 3 tI) [(aR 3 [i1])]
noncomputable def fn20 (x : sg20.p.den) : Option sg20.r.den := st20.den [] [] sg20.r [⟨sg20.p, x⟩]
theorem spec20 : CallSpec Try.prog sg20 fn20 := spec (ss := []) (an := an20) (stm := st20) follows (Specs.nil) (by kernel_rfl) (by kernel_rfl) (fun _ => rfl)
theorem eq20 : fn20 = Pf.laws_toIntS := by kernel_rfl
-- laws.eqIntS
def sg23 : Sig := ⟨23,23,[.val i0 (tS 3 tI),.val i0 (tS 3 tI)],[.val i0 tB i1]⟩
def an23 : Ann := ⟨26,[(6,[0,1,2,3,4,5,6,7,8])],[],[(0,tI,[(0,(.c (.s none (aR 0 [i0])))),(1,(.c (.s none (aR 0 [i1])))),(5,(sW (aV 4)))],[])],[],[]⟩
def st23 : Stm := sB (.len (aR 0 [i0])) <| sB (.len (aR 0 [i1])) <| sB (.cmp .ne i6 (aV 1) (aV 2)) <| sI (aV 3) (sR tB [(.bool false)]) <| sL tI [(aI 0)] <| sB (.len (aR 0 [i0])) <| sB (.cmp .lt i6 (aV 4) (aV 5)) <| sI (aV 6) (sB (.get (aR 0 [i0]) (aV 4)) <| sB (.get (aR 0 [i1]) (aV 4)) <| sB (.cmp .ne i6 (aV 7) (aV 8)) <| sI (aV 9) (sU <| sR tB [(.bool false)]) <| sB (.bin .add i6 (aV 4) (aI 1)) <| sN tI [(aV 10)]) <| sU <| sR tB [(.bool true)]
noncomputable def fn23 (x : sg23.p.den) : Option sg23.r.den := st23.den [] [] sg23.r [⟨sg23.p, x⟩]
theorem spec23 : CallSpec Try.prog sg23 fn23 := spec (ss := []) (an := an23) (stm := st23) follows (Specs.nil) (by kernel_rfl) (by kernel_rfl) (fun _ => rfl)
theorem eq23 : fn23 = Pf.laws_eqIntS := by kernel_rfl
-- impl.inRange
def sg47 : Sig := ⟨47,47,[.val i0 tI,.val i0 tI,.val i0 tI],[.val i0 tB i1]⟩
def an47 : Ann := ⟨15,[],[],[],[],[]⟩
def st47 : Stm := sB (.cmp .ge i6 (aR 0 [i0]) (aR 0 [i1,i0])) <| sI (aV 1) (sB (.cmp .le i6 (aR 0 [i0]) (aR 0 [i1,i1])) <| sR tB [(aV 2)]) <| sR tB [(.bool false)]
noncomputable def fn47 (x : sg47.p.den) : Option sg47.r.den := st47.den [] [] sg47.r [⟨sg47.p, x⟩]
theorem spec47 : CallSpec Try.prog sg47 fn47 := spec (ss := []) (an := an47) (stm := st47) follows (Specs.nil) (by kernel_rfl) (by kernel_rfl) (fun _ => rfl)
theorem eq47 : fn47 = Pf.impl_inRange := by kernel_rfl
-- laws.szArcS
def sg50 : Sig := ⟨50,50,[.val i0 (tS 100 (tP tI (tP tI tI))),.val i0 tI],[.val i0 tI i1]⟩
def an50 : Ann := ⟨12,[],[],[],[],[]⟩
def st50 : Stm := sB (.len (aR 0 [i0])) <| sB (.bin .sub i6 (aR 0 [i1]) (aV 1)) <| sB (.cmp .lt i6 (aV 2) (aI 0)) <| sI (aV 3) (sR tI [(aI (-1))]) <| sR tI [(aV 2)]
noncomputable def fn50 (x : sg50.p.den) : Option sg50.r.den := st50.den [] [] sg50.r [⟨sg50.p, x⟩]
theorem spec50 : CallSpec Try.prog sg50 fn50 := spec (ss := []) (an := an50) (stm := st50) follows (Specs.nil) (by kernel_rfl) (by kernel_rfl) (fun _ => rfl)
theorem eq50 : fn50 = Pf.laws_szArcS := by kernel_rfl
-- spec.l01In
def sg54 : Sig := ⟨54,54,[.val i0 tI,.val i0 tI,.val i0 tI],[.val i0 tB i1]⟩
def an54 : Ann := ⟨15,[],[],[],[],[]⟩
def st54 : Stm := sB (.cmp .ge i6 (aR 0 [i0]) (aR 0 [i1,i0])) <| sI (aV 1) (sB (.cmp .le i6 (aR 0 [i0]) (aR 0 [i1,i1])) <| sR tB [(aV 2)]) <| sR tB [(.bool false)]
noncomputable def fn54 (x : sg54.p.den) : Option sg54.r.den := st54.den [] [] sg54.r [⟨sg54.p, x⟩]
theorem spec54 : CallSpec Try.prog sg54 fn54 := spec (ss := []) (an := an54) (stm := st54) follows (Specs.nil) (by kernel_rfl) (by kernel_rfl) (fun _ => rfl)
theorem eq54 : fn54 = Pf.spec_l01In := by kernel_rfl
-- laws.toArc
def sg69 : Sig := ⟨69,69,[.val i1 (tP tI (tP tI tI))],[.val i1 (tP tI (tP tI tI)) i1]⟩
def an69 : Ann := ⟨14,[],[],[],[],[]⟩
def st69 : Stm := sR (tP tI (tP tI tI)) [(aR 0 [i0]),(aR 0 [i1,i0]),(aR 0 [i1,i1])]
noncomputable def fn69 (x : sg69.p.den) : Option sg69.r.den := st69.den [] [] sg69.r [⟨sg69.p, x⟩]
theorem spec69 : CallSpec Try.prog sg69 fn69 := spec (ss := []) (an := an69) (stm := st69) follows (Specs.nil) (by kernel_rfl) (by kernel_rfl) (fun _ => rfl)
theorem eq69 : fn69 = Pf.laws_toArc := by kernel_rfl
-- laws.eqArc
def sg70 : Sig := ⟨70,70,[.val i1 (tP tI (tP tI tI)),.val i1 (tP tI (tP tI tI))],[.val i0 tB i1]⟩
def an70 : Ann := ⟨20,[],[],[],[],[]⟩
def st70 : Stm := sB (.cmp .ne i6 (aR 0 [i0,i0]) (aR 0 [i1,i0])) <| sI (aV 1) (sR tB [(.bool false)]) <| sB (.cmp .ne i6 (aR 0 [i0,i1,i0]) (aR 0 [i1,i1,i0])) <| sI (aV 2) (sR tB [(.bool false)]) <| sB (.cmp .ne i6 (aR 0 [i0,i1,i1]) (aR 0 [i1,i1,i1])) <| sI (aV 3) (sR tB [(.bool false)]) <| sR tB [(.bool true)]
noncomputable def fn70 (x : sg70.p.den) : Option sg70.r.den := st70.den [] [] sg70.r [⟨sg70.p, x⟩]
theorem spec70 : CallSpec Try.prog sg70 fn70 := spec (ss := []) (an := an70) (stm := st70) follows (Specs.nil) (by kernel_rfl) (by kernel_rfl) (fun _ => rfl)
theorem eq70 : fn70 = Pf.laws_eqArc := by kernel_rfl
-- impl.TimingOk
def sg15 : Sig := ⟨15,15,[.val i1 (tP tI (tS 37 (tP tI (tP tI tI))))],[.val i0 tB i1]⟩
def an15 : Ann := ⟨45,[],[],[(0,tI,[(1,(.c (.h 0))),(16,(.c (.s none (aR 0 [i1])))),(17,(sW (aV 5))),(18,(sW (aV 6)))],[(.box 26 [(sV (aR 0 [i0])),(.s none (aR 0 [i1]))])])],[],[]⟩
def st15 : Stm := sB (.call 47 [(aR 0 [i0]),(aI 0),(aI 500)]) <| sB (.not (aV 1)) <| sI (aV 2) (sR tB [(.bool false)]) <| sB (.len (aR 0 [i1])) <| sB (.cmp .gt i6 (aV 3) (aI 2000)) <| sI (aV 4) (sR tB [(.bool false)]) <| sB (.len (aR 0 [i1])) <| sL tI [(aI 0)] <| sB (.cmp .lt i6 (aV 6) (aV 5)) <| sI (aV 7) (sB (.get (aR 0 [i1]) (aV 6)) <| sB (.bin .sub i6 (aR 0 [i0]) (aI 1)) <| sB (.call 47 [(aR 8 [i1,i0]),(aI 0),(aV 9)]) <| sB (.not (aV 10)) <| sI (aV 11) (sU <| sR tB [(.bool false)]) <| sB (.bin .sub i6 (aR 8 [i1,i0]) (aI 1)) <| sB (.call 47 [(aR 8 [i0]),(aI 0),(aV 12)]) <| sB (.not (aV 13)) <| sI (aV 14) (sU <| sR tB [(.bool false)]) <| sB (.call 47 [(aR 8 [i1,i1]),(aI 0),(aI 100)]) <| sB (.not (aV 15)) <| sI (aV 16) (sU <| sR tB [(.bool false)]) <| sB (.bin .add i6 (aV 6) (aI 1)) <| sN tI [(aV 17)]) <| sU <| sR tB [(.bool true)]
noncomputable def fn15 (x : sg15.p.den) : Option sg15.r.den := st15.den [⟨sg47.key, sg47.p, sg47.r, fn47⟩] [] sg15.r [⟨sg15.p, x⟩]
theorem spec15 : CallSpec Try.prog sg15 fn15 := spec (ss := [sg47]) (an := an15) (stm := st15) follows (Specs.cons spec47 (Specs.nil) (by kernel_rfl)) (by kernel_rfl) (by kernel_rfl) (fun _ => rfl)
theorem eq15 : fn15 = Pf.impl_TimingOk := by kernel_rfl
-- laws.szTimingGraph
def sg17 : Sig := ⟨17,17,[.val i1 (tP tI (tS 100 (tP tI (tP tI tI)))),.val i0 tI],[.val i0 tI i1]⟩
def an17 : Ann := ⟨12,[],[],[],[],[]⟩
def st17 : Stm := sB (.call 50 [(aR 0 [i0,i1]),(aR 0 [i1])]) <| sB (.cmp .lt i6 (aV 1) (aI 0)) <| sI (aV 2) (sR tI [(aI (-1))]) <| sR tI [(aV 1)]
noncomputable def fn17 (x : sg17.p.den) : Option sg17.r.den := st17.den [⟨sg50.key, sg50.p, sg50.r, fn50⟩] [] sg17.r [⟨sg17.p, x⟩]
theorem spec17 : CallSpec Try.prog sg17 fn17 := spec (ss := [sg50]) (an := an17) (stm := st17) follows (Specs.cons spec50 (Specs.nil) (by kernel_rfl)) (by kernel_rfl) (by kernel_rfl) (fun _ => rfl)
theorem eq17 : fn17 = Pf.laws_szTimingGraph := by kernel_rfl
-- spec.TimingOk
def sg51 : Sig := ⟨51,51,[.val i1 (tP tI (tS 37 (tP tI (tP tI tI))))],[.val i0 tB i1]⟩
def an51 : Ann := ⟨50,[],[],[(0,tI,[(1,(.c (.h 0))),(3,(sW (aV 5)))],[(.box 26 [(sV (aR 0 [i0])),(.s none (aR 0 [i1]))])])],[],[]⟩
def st51 : Stm := sB (.call 54 [(aR 0 [i0]),(aI 0),(aI 500)]) <| sB (.not (aV 1)) <| sI (aV 2) (sR tB [(.bool false)]) <| sB (.len (aR 0 [i1])) <| sB (.cmp .gt i6 (aV 3) (aI 2000)) <| sI (aV 4) (sR tB [(.bool false)]) <| sL tI [(aI 0)] <| sB (.len (aR 0 [i1])) <| sB (.cmp .lt i6 (aV 5) (aV 6)) <| sI (aV 7) (sB (.get (aR 0 [i1]) (aV 5)) <| sB (.cmp .lt i6 (aR 8 [i0]) (aI 0)) <| sI (aV 9) (sU <| sR tB [(.bool false)]) <| sB (.cmp .ge i6 (aR 8 [i0]) (aR 8 [i1,i0])) <| sI (aV 10) (sU <| sR tB [(.bool false)]) <| sB (.cmp .ge i6 (aR 8 [i1,i0]) (aR 0 [i0])) <| sI (aV 11) (sU <| sR tB [(.bool false)]) <| sB (.call 54 [(aR 8 [i1,i1]),(aI 0),(aI 100)]) <| sB (.not (aV 12)) <| sI (aV 13) (sU <| sR tB [(.bool false)]) <| sB (.bin .add i6 (aV 5) (aI 1)) <| sN tI [(aV 14)]) <| sU <| sR tB [(.bool true)]
noncomputable def fn51 (x : sg51.p.den) : Option sg51.r.den := st51.den [⟨sg54.key, sg54.p, sg54.r, fn54⟩] [] sg51.r [⟨sg51.p, x⟩]
theorem spec51 : CallSpec Try.prog sg51 fn51 := spec (ss := [sg54]) (an := an51) (stm := st51) follows (Specs.cons spec54 (Specs.nil) (by kernel_rfl)) (by kernel_rfl) (by kernel_rfl) (fun _ => rfl)
theorem eq51 : fn51 = Pf.spec_TimingOk := by kernel_rfl
-- laws.toArcS
def sg52 : Sig := ⟨52,52,[.val i0 (tS 100 (tP tI (tP tI tI)))],[.val i0 (tS 37 (tP tI (tP tI tI))) i0]⟩
def an52 : Ann := ⟨23,[],[],[(0,(tP tI (tS 37 (tP tI (tP tI tI)))),[(0,(.c (.s none (aV 0)))),(3,(.c (.h 0))),(4,(sW (aR 3 [i0])))],[(.list 37 (tP tI (tP tI tI)) (aR 3 [i1]) i0 none)])],[],[]⟩
def st52 : Stm := sB (.len (aV 0)) <| sB (.make 24 37 (tP tI (tP tI tI)) (aV 1)) <| sL (tP tI (tS 37 (tP tI (tP tI tI)))) [(aI 0),(aV 2)] <| sB (.len (aV 0)) <| sB (.cmp .lt i6 (aR 3 [i0]) (aV 4)) <| sI (aV 5) (sB (.get (aV 0) (aR 3 [i0])) <| sB (.call 69 [(aR 6 [i0]),(aR 6 [i1,i0]),(aR 6 [i1,i1])]) <| sB (.idx (aR 3 [i1]) (aR 3 [i0])) <| sB (.get (aR 3 [i1]) (aR 3 [i0])) <| sB (.mk (tP tI (tP tI tI)) [(aR 7 [i0]),(aR 7 [i1,i0]),(aR 7 [i1,i1])]) <| sB (.set (aR 3 [i1]) (aR 3 [i0]) (aV 10)) <| sB (.bin .add i6 (aR 3 [i0]) (aI 1)) <| sN (tP tI (tS 37 (tP tI (tP tI tI)))) [(aV 12),(aV 11)]) <| sU <| sR (tS 37 (tP tI (tP tI tI))) [(aR 3 [i1])]
noncomputable def fn52 (x : sg52.p.den) : Option sg52.r.den := st52.den [⟨sg69.key, sg69.p, sg69.r, fn69⟩] [] sg52.r [⟨sg52.p, x⟩]
theorem spec52 : CallSpec Try.prog sg52 fn52 := spec (ss := [sg69]) (an := an52) (stm := st52) follows (Specs.cons spec69 (Specs.nil) (by kernel_rfl)) (by kernel_rfl) (by kernel_rfl) (fun _ => rfl)
theorem eq52 : fn52 = Pf.laws_toArcS := by kernel_rfl
-- laws.eqArcS
def sg53 : Sig := ⟨53,53,[.val i0 (tS 37 (tP tI (tP tI tI))),.val i0 (tS 37 (tP tI (tP tI tI)))],[.val i0 tB i1]⟩
def an53 : Ann := ⟨27,[(6,[0,1,2,3,4,5,6,7,8,9])],[],[(0,tI,[(0,(.c (.s none (aR 0 [i0])))),(1,(.c (.s none (aR 0 [i1])))),(5,(sW (aV 4)))],[])],[],[]⟩
def st53 : Stm := sB (.len (aR 0 [i0])) <| sB (.len (aR 0 [i1])) <| sB (.cmp .ne i6 (aV 1) (aV 2)) <| sI (aV 3) (sR tB [(.bool false)]) <| sL tI [(aI 0)] <| sB (.len (aR 0 [i0])) <| sB (.cmp .lt i6 (aV 4) (aV 5)) <| sI (aV 6) (sB (.get (aR 0 [i0]) (aV 4)) <| sB (.get (aR 0 [i1]) (aV 4)) <| sB (.call 70 [(aR 7 [i0]),(aR 7 [i1,i0]),(aR 7 [i1,i1]),(aR 8 [i0]),(aR 8 [i1,i0]),(aR 8 [i1,i1])]) <| sB (.not (aV 9)) <| sI (aV 10) (sU <| sR tB [(.bool false)]) <| sB (.bin .add i6 (aV 4) (aI 1)) <| sN tI [(aV 11)]) <| sU <| sR tB [(.bool true)]
noncomputable def fn53 (x : sg53.p.den) : Option sg53.r.den := st53.den [⟨sg70.key, sg70.p, sg70.r, fn70⟩] [] sg53.r [⟨sg53.p, x⟩]
theorem spec53 : CallSpec Try.prog sg53 fn53 := spec (ss := [sg70]) (an := an53) (stm := st53) follows (Specs.cons spec70 (Specs.nil) (by kernel_rfl)) (by kernel_rfl) (by kernel_rfl) (fun _ => rfl)
theorem eq53 : fn53 = Pf.laws_eqArcS := by kernel_rfl
-- spec.PathDelay
def sg18 : Sig := ⟨18,18,[.val i1 (tP tI (tS 37 (tP tI (tP tI tI)))),.val i0 (tS 3 tI)],[.val i0 tI i1]⟩
def an18 : Ann := ⟨64,[(11,[0,1,2,3,4,5,6,7,8,9,10,11,12,13,14,15,16,17,18,19,20,21,22,23,24])],[],[(2,(tP tI tI),[(1,(.c (.s none (aR 0 [i1])))),(2,(.c (.h 0))),(5,(sW (aR 3 [i0]))),(6,(sW (aR 3 [i1]))),(7,(sW (aR 6 [i0]))),(8,(sW (aR 6 [i1])))],[(.box 26 [(sV (aR 0 [i0,i0])),(.s none (aR 0 [i0,i1]))])]),(0,(tP tI tI),[(1,(.c (.s none (aR 0 [i1])))),(2,(.c (.h 0))),(5,(sW (aR 3 [i0]))),(6,(sW (aR 3 [i1])))],[(.box 26 [(sV (aR 0 [i0,i0])),(.s none (aR 0 [i0,i1]))])])],[],[]⟩
def st18 : Stm := sB (.call 51 [(aR 0 [i0,i0]),(aR 0 [i0,i1])]) <| sB (.not (aV 1)) <| sI (aV 2) (sR tI [(aI (-1))]) <| sL (tP tI tI) [(aI 0),(aI 1)] <| sB (.len (aR 0 [i1])) <| sB (.cmp .lt i6 (aR 3 [i1]) (aV 4)) <| sI (aV 5) (sL (tP tI tI) [(aI (-1)),(aI 0)] <| sB (.len (aR 0 [i0,i1])) <| sB (.cmp .lt i6 (aR 6 [i1]) (aV 7)) <| sI (aV 8) (sB (.get (aR 0 [i0,i1]) (aR 6 [i1])) <| sB (.bin .sub i6 (aR 3 [i1]) (aI 1)) <| sB (.get (aR 0 [i1]) (aV 10)) <| sB (.cmp .eq i6 (aR 9 [i0]) (aV 11)) <| sI (aV 12) (sB (.get (aR 0 [i0,i1]) (aR 6 [i1])) <| sB (.get (aR 0 [i1]) (aR 3 [i1])) <| sB (.cmp .eq i6 (aR 13 [i1,i0]) (aV 14)) <| sI (aV 15) (sB (.get (aR 0 [i0,i1]) (aR 6 [i1])) <| sB (.max i6 (aR 6 [i0]) (aR 16 [i1,i1])) <| sB (.bin .add i6 (aR 6 [i1]) (aI 1)) <| sN (tP tI tI) [(aV 17),(aV 18)]) <| sB (.bin .add i6 (aR 6 [i1]) (aI 1)) <| sN (tP tI tI) [(aR 6 [i0]),(aV 16)]) <| sB (.bin .add i6 (aR 6 [i1]) (aI 1)) <| sN (tP tI tI) [(aR 6 [i0]),(aV 13)]) <| sU <| sB (.cmp .lt i6 (aR 6 [i0]) (aI 0)) <| sI (aV 9) (sU <| sR tI [(aI (-1))]) <| sB (.bin .add i6 (aR 3 [i0]) (aR 6 [i0])) <| sB (.bin .add i6 (aR 3 [i1]) (aI 1)) <| sN (tP tI tI) [(aV 10),(aV 11)]) <| sU <| sR tI [(aR 3 [i0])]
noncomputable def fn18 (x : sg18.p.den) : Option sg18.r.den := st18.den [⟨sg51.key, sg51.p, sg51.r, fn51⟩] [] sg18.r [⟨sg18.p, x⟩]
theorem spec18 : CallSpec Try.prog sg18 fn18 := spec (ss := [sg51]) (an := an18) (stm := st18) follows (Specs.cons spec51 (Specs.nil) (by kernel_rfl)) (by kernel_rfl) (by kernel_rfl) (fun _ => rfl)
theorem eq18 : fn18 = Pf.spec_PathDelay := by kernel_rfl
-- laws.toTimingGraph
def sg19 : Sig := ⟨19,19,[.val i1 (tP tI (tS 100 (tP tI (tP tI tI))))],[.val i1 (tP tI (tS 37 (tP tI (tP tI tI)))) i0]⟩
def an19 : Ann := ⟨12,[],[],[],[],[]⟩
def st19 : Stm := sB (.call 52 [(aR 0 [i1])]) <| sR (tP tI (tS 37 (tP tI (tP tI tI)))) [(aR 0 [i0]),(aV 1)]
noncomputable def fn19 (x : sg19.p.den) : Option sg19.r.den := st19.den [⟨sg52.key, sg52.p, sg52.r, fn52⟩] [] sg19.r [⟨sg19.p, x⟩]
theorem spec19 : CallSpec Try.prog sg19 fn19 := spec (ss := [sg52]) (an := an19) (stm := st19) follows (Specs.cons spec52 (Specs.nil) (by kernel_rfl)) (by kernel_rfl) (by kernel_rfl) (fun _ => rfl)
theorem eq19 : fn19 = Pf.laws_toTimingGraph := by kernel_rfl
-- impl.PathDelay
def sg21 : Sig := ⟨21,21,[.val i1 (tP tI (tS 37 (tP tI (tP tI tI)))),.val i0 (tS 3 tI)],[.val i0 tI i1]⟩
def an21 : Ann := ⟨54,[(11,[0,1,2,3,4,5,6,7,8,9,10,11,12,13,14,15,16])],[],[(2,(tP tI tI),[(1,(.c (.s none (aR 0 [i1])))),(2,(.c (.h 0))),(5,(sW (aR 3 [i0]))),(6,(sW (aR 3 [i1]))),(7,(sW (aR 7 [i0]))),(20,(.c (.s none (aR 0 [i0,i1])))),(21,(sW (aV 6))),(22,(sW (aR 7 [i1])))],[(.box 26 [(sV (aR 0 [i0,i0])),(.s none (aR 0 [i0,i1]))])]),(0,(tP tI tI),[(1,(.c (.s none (aR 0 [i1])))),(2,(.c (.h 0))),(5,(sW (aR 3 [i0]))),(6,(sW (aR 3 [i1])))],[(.box 26 [(sV (aR 0 [i0,i0])),(.s none (aR 0 [i0,i1]))])])],[],[]⟩
def st21 : Stm := sB (.call 15 [(aR 0 [i0,i0]),(aR 0 [i0,i1])]) <| sB (.not (aV 1)) <| sI (aV 2) (sR tI [(aI (-1))]) <| sL (tP tI tI) [(aI 0),(aI 1)] <| sB (.len (aR 0 [i1])) <| sB (.cmp .lt i6 (aR 3 [i1]) (aV 4)) <| sI (aV 5) (sB (.len (aR 0 [i0,i1])) <| sL (tP tI tI) [(aI (-1)),(aI 0)] <| sB (.cmp .lt i6 (aR 7 [i1]) (aV 6)) <| sI (aV 8) (sB (.get (aR 0 [i0,i1]) (aR 7 [i1])) <| sB (.bin .sub i6 (aR 3 [i1]) (aI 1)) <| sB (.get (aR 0 [i1]) (aV 10)) <| sB (.cmp .eq i6 (aR 9 [i0]) (aV 11)) <| sI (aV 12) (sB (.get (aR 0 [i1]) (aR 3 [i1])) <| sB (.cmp .eq i6 (aR 9 [i1,i0]) (aV 13)) <| sI (aV 14) (sB (.max i6 (aR 7 [i0]) (aR 9 [i1,i1])) <| sB (.bin .add i6 (aR 7 [i1]) (aI 1)) <| sN (tP tI tI) [(aV 15),(aV 16)]) <| sB (.bin .add i6 (aR 7 [i1]) (aI 1)) <| sN (tP tI tI) [(aR 7 [i0]),(aV 15)]) <| sB (.bin .add i6 (aR 7 [i1]) (aI 1)) <| sN (tP tI tI) [(aR 7 [i0]),(aV 13)]) <| sU <| sB (.cmp .lt i6 (aR 7 [i0]) (aI 0)) <| sI (aV 9) (sU <| sR tI [(aI (-1))]) <| sB (.bin .add i6 (aR 3 [i0]) (aR 7 [i0])) <| sB (.bin .add i6 (aR 3 [i1]) (aI 1)) <| sN (tP tI tI) [(aV 10),(aV 11)]) <| sU <| sR tI [(aR 3 [i0])]
noncomputable def fn21 (x : sg21.p.den) : Option sg21.r.den := st21.den [⟨sg15.key, sg15.p, sg15.r, fn15⟩] [] sg21.r [⟨sg21.p, x⟩]
theorem spec21 : CallSpec Try.prog sg21 fn21 := spec (ss := [sg15]) (an := an21) (stm := st21) follows (Specs.cons spec15 (Specs.nil) (by kernel_rfl)) (by kernel_rfl) (by kernel_rfl) (fun _ => rfl)
theorem eq21 : fn21 = Pf.impl_PathDelay := by kernel_rfl
-- laws.eqTimingGraph
def sg22 : Sig := ⟨22,22,[.val i1 (tP tI (tS 37 (tP tI (tP tI tI)))),.val i1 (tP tI (tS 37 (tP tI (tP tI tI))))],[.val i0 tB i1]⟩
def an22 : Ann := ⟨16,[],[],[],[],[]⟩
def st22 : Stm := sB (.cmp .ne i6 (aR 0 [i0,i0]) (aR 0 [i1,i0])) <| sI (aV 1) (sR tB [(.bool false)]) <| sB (.call 53 [(aR 0 [i0,i1]),(aR 0 [i1,i1])]) <| sB (.not (aV 2)) <| sI (aV 3) (sR tB [(.bool false)]) <| sR tB [(.bool true)]
noncomputable def fn22 (x : sg22.p.den) : Option sg22.r.den := st22.den [⟨sg53.key, sg53.p, sg53.r, fn53⟩] [] sg22.r [⟨sg22.p, x⟩]
theorem spec22 : CallSpec Try.prog sg22 fn22 := spec (ss := [sg53]) (an := an22) (stm := st22) follows (Specs.cons spec53 (Specs.nil) (by kernel_rfl)) (by kernel_rfl) (by kernel_rfl) (fun _ => rfl)
theorem eq22 : fn22 = Pf.laws_eqTimingGraph := by kernel_rfl
-- laws.FnExactPathDelay
def sg4 : Sig := ⟨4,4,[.val i1 (tP tI (tS 100 (tP tI (tP tI tI)))),.val i0 (tS 3 tI)],[.val i0 tB i1]⟩
def an4 : Ann := ⟨43,[(13,[0,1,2,3,4])],[],[],[],[]⟩
def st4 : Stm := sB (.len (aR 0 [i1])) <| sB (.cmp .gt i6 (aV 1) (aI 1048576)) <| sI (aV 2) (sR tB [(.bool true)]) <| sB (.call 17 [(aR 0 [i0,i0]),(aR 0 [i0,i1]),(aI 1048576)]) <| sB (.cmp .lt i6 (aV 3) (aI 0)) <| sI (aV 4) (sR tB [(.bool true)]) <| sB (.call 19 [(aR 0 [i0,i0]),(aR 0 [i0,i1])]) <| sB (.call 20 [(aR 0 [i1])]) <| sB (.call 18 [(aR 5 [i0]),(aR 5 [i1]),(aV 6)]) <| sB (.call 19 [(aR 0 [i0,i0]),(aR 0 [i0,i1])]) <| sB (.call 20 [(aR 0 [i1])]) <| sB (.call 21 [(aR 8 [i0]),(aR 8 [i1]),(aV 9)]) <| sB (.cmp .ne i6 (aV 10) (aV 7)) <| sI (aV 11) (sR tB [(.bool false)]) <| sB (.call 19 [(aR 0 [i0,i0]),(aR 0 [i0,i1])]) <| sB (.call 22 [(aR 8 [i0]),(aR 8 [i1]),(aR 12 [i0]),(aR 12 [i1])]) <| sB (.not (aV 13)) <| sI (aV 14) (sR tB [(.bool false)]) <| sB (.call 20 [(aR 0 [i1])]) <| sB (.call 23 [(aV 9),(aV 15)]) <| sB (.not (aV 16)) <| sI (aV 17) (sR tB [(.bool false)]) <| sR tB [(.bool true)]
noncomputable def fn4 (x : sg4.p.den) : Option sg4.r.den := st4.den [⟨sg17.key, sg17.p, sg17.r, fn17⟩, ⟨sg19.key, sg19.p, sg19.r, fn19⟩, ⟨sg20.key, sg20.p, sg20.r, fn20⟩, ⟨sg18.key, sg18.p, sg18.r, fn18⟩, ⟨sg21.key, sg21.p, sg21.r, fn21⟩, ⟨sg22.key, sg22.p, sg22.r, fn22⟩, ⟨sg23.key, sg23.p, sg23.r, fn23⟩] [] sg4.r [⟨sg4.p, x⟩]
theorem spec4 : CallSpec Try.prog sg4 fn4 := spec (ss := [sg17, sg19, sg20, sg18, sg21, sg22, sg23]) (an := an4) (stm := st4) follows (Specs.cons spec17 (Specs.cons spec19 (Specs.cons spec20 (Specs.cons spec18 (Specs.cons spec21 (Specs.cons spec22 (Specs.cons spec23 (Specs.nil) (by kernel_rfl)) (by kernel_rfl)) (by kernel_rfl)) (by kernel_rfl)) (by kernel_rfl)) (by kernel_rfl)) (by kernel_rfl)) (by kernel_rfl) (by kernel_rfl) (fun _ => rfl)
theorem eq4 : fn4 = Pf.laws_FnExactPathDelay := by kernel_rfl
end Go.Proofs.Ytnllpdmiijbehaa
