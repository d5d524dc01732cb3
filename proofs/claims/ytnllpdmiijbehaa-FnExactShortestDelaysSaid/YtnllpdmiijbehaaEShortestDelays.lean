/-
  Own work, printed by my tool: signatures, annotations and the compiled statements of the functions that the law reaches; each one's contract.
-/
import Derived.Test.YtnllpdmiijbehaaD
import Derived.Test.YtnllpdmiijbehaaProg
namespace Go.Proofs.Ytnllpdmiijbehaa
open Go Go.Pu Go.Proofs
theorem follows : Try.prog.follows .mixedOrders = true := by kernel_rfl
-- laws.eqIntS
def sg23 : Sig := ⟨23,23,[.val i0 (tS 3 tI),.val i0 (tS 3 tI)],[.val i0 tB i1]⟩
def an23 : Ann := ⟨26,[(6,[0,1,2,3,4,5,6,7,8])],[],[(0,tI,[(0,(.c (.s none (aR 0 [i0])))),(1,(.c (.s none (aR 0 [i1])))),(5,(sW (aV 4)))],[])],[],[]⟩
def st23 : Stm := sB (.len (aR 0 [i0])) <| sB (.len (aR 0 [i1])) <| sB (.cmp .ne i6 (aV 1) (aV 2)) <| sI (aV 3) (sR tB [(.bool false)]) <| sL tI [(aI 0)] <| sB (.len (aR 0 [i0])) <| sB (.cmp .lt i6 (aV 4) (aV 5)) <| sI (aV 6) (sB (.get (aR 0 [i0]) (aV 4)) <| sB (.get (aR 0 [i1]) (aV 4)) <| sB (.cmp .ne i6 (aV 7) (aV 8)) <| sI (aV 9) (sU <| sR tB [(.bool false)]) <| sB (.bin .add i6 (aV 4) (aI 1)) <| sN tI [(aV 10)]) <| sU <| sR tB [(.bool true)]
noncomputable def fn23 (x : sg23.p.den) : Option sg23.r.den := st23.den [] [] sg23.r [⟨sg23.p, x⟩]
theorem spec23 : CallSpec Try.prog sg23 fn23 := spec (ss := []) (an := an23) (stm := st23) follows (Specs.nil) (by kernel_rfl) (by kernel_rfl) (fun _ => rfl)
theorem eq23 : fn23 = Pf.laws_eqIntS := by kernel_rfl
-- laws.markIntS
def sg30 : Sig := ⟨30,30,[.own i0 (tS 3 tI) i1,.val i0 tI],[.val i0 tI i1]⟩
def an30 : Ann := ⟨19,[],[],[(0,(tP tI (tP tI (tS 3 tI))),[(0,(.c (.h 0))),(1,(sW (aR 1 [i0]))),(5,(sW (aR 1 [i1,i0])))],[(.list 3 tI (aR 1 [i1,i1]) i0 none)])],[],[]⟩
def st30 : Stm := sL (tP tI (tP tI (tS 3 tI))) [(aR 0 [i1]),(aI 0),(aR 0 [i0])] <| sB (.len (aR 1 [i1,i1])) <| sB (.cmp .lt i6 (aR 1 [i1,i0]) (aV 2)) <| sI (aV 3) (sB (.idx (aR 1 [i1,i1]) (aR 1 [i1,i0])) <| sB (.get (aR 1 [i1,i1]) (aR 1 [i1,i0])) <| sB (.mk tI [(aR 1 [i0])]) <| sB (.set (aR 1 [i1,i1]) (aR 1 [i1,i0]) (aV 6)) <| sB (.bin .add i6 (aR 1 [i0]) (aI 1)) <| sB (.bin .add i6 (aR 1 [i1,i0]) (aI 1)) <| sN (tP tI (tP tI (tS 3 tI))) [(aV 8),(aV 9),(aV 7)]) <| sU <| sR (tP tI (tS 3 tI)) [(aR 1 [i0]),(aR 1 [i1,i1])]
noncomputable def fn30 (x : sg30.p.den) : Option sg30.r.den := st30.den [] [] sg30.r [⟨sg30.p, x⟩]
theorem spec30 : CallSpec Try.prog sg30 fn30 := spec (ss := []) (an := an30) (stm := st30) follows (Specs.nil) (by kernel_rfl) (by kernel_rfl) (fun _ => rfl)
theorem eq30 : fn30 = Pf.laws_markIntS := by kernel_rfl
-- laws.heldIntS
def sg31 : Sig := ⟨31,31,[.val i0 (tS 3 tI),.val i0 tI],[.val i0 tI i1]⟩
def an31 : Ann := ⟨21,[],[],[(0,(tP tI tI),[(0,(.c (.s none (aR 0 [i0])))),(1,(sW (aR 1 [i0]))),(5,(sW (aR 1 [i1])))],[])],[],[]⟩
def st31 : Stm := sL (tP tI tI) [(aR 0 [i1]),(aI 0)] <| sB (.len (aR 0 [i0])) <| sB (.cmp .lt i6 (aR 1 [i1]) (aV 2)) <| sI (aV 3) (sB (.get (aR 0 [i0]) (aR 1 [i1])) <| sB (.cmp .ne i6 (aV 4) (aR 1 [i0])) <| sI (aV 5) (sU <| sR tI [(aI (-1))]) <| sB (.bin .add i6 (aR 1 [i0]) (aI 1)) <| sB (.bin .add i6 (aR 1 [i1]) (aI 1)) <| sN (tP tI tI) [(aV 6),(aV 7)]) <| sU <| sR tI [(aR 1 [i0])]
noncomputable def fn31 (x : sg31.p.den) : Option sg31.r.den := st31.den [] [] sg31.r [⟨sg31.p, x⟩]
theorem spec31 : CallSpec Try.prog sg31 fn31 := spec (ss := []) (an := an31) (stm := st31) follows (Specs.nil) (by kernel_rfl) (by kernel_rfl) (fun _ => rfl)
theorem eq31 : fn31 = Pf.laws_heldIntS := by kernel_rfl
-- impl.inRange
def sg47 : Sig := ⟨47,47,[.val i0 tI,.val i0 tI,.val i0 tI],[.val i0 tB i1]⟩
def an47 : Ann := ⟨15,[],[],[],[],[]⟩
def st47 : Stm := sB (.cmp .ge i6 (aR 0 [i0]) (aR 0 [i1,i0])) <| sI (aV 1) (sB (.cmp .le i6 (aR 0 [i0]) (aR 0 [i1,i1])) <| sR tB [(aV 2)]) <| sR tB [(.bool false)]
noncomputable def fn47 (x : sg47.p.den) : Option sg47.r.den := st47.den [] [] sg47.r [⟨sg47.p, x⟩]
theorem spec47 : CallSpec Try.prog sg47 fn47 := spec (ss := []) (an := an47) (stm := st47) follows (Specs.nil) (by kernel_rfl) (by kernel_rfl) (fun _ => rfl)
theorem eq47 : fn47 = Pf.impl_inRange := by kernel_rfl
-- impl.delaysFrom
def sg48 : Sig := ⟨48,48,[.val i0 (tS 24 (tS 37 (tP tI (tP tI tI)))),.val i0 tI,.val i0 tB],[.val i0 (tS 3 tI) i0]⟩
def an48 : Ann := ⟨87,[(12,[0,1,2,3,4,5,6,7,8])],[],[(2,(tP tI (tS 3 tI)),[(0,(.c (.s none (aR 0 [i0])))),(1,(sW (aR 0 [i1,i0]))),(2,(sW (aR 0 [i1,i1]))),(7,(.c (.h 0))),(8,(sW (aR 4 [i0]))),(16,(sW (aV 3))),(17,(sW (aR 4 [i0]))),(32,(.c (.s none (aV 11)))),(33,(sW (aV 12))),(34,(sW (aR 13 [i0])))],[(.list 3 tI (aR 13 [i1]) i0 none)]),(0,(tP tI (tS 3 tI)),[(0,(.c (.s none (aR 0 [i0])))),(1,(sW (aR 0 [i1,i0]))),(2,(sW (aR 0 [i1,i1]))),(7,(.c (.h 0))),(16,(sW (aV 3))),(17,(sW (aR 4 [i0])))],[(.list 3 tI (aR 4 [i1]) i0 none)])],[],[]⟩
def st48 : Stm := sB (.len (aR 0 [i0])) <| sB (.make 8 3 tI (aV 1)) <| sB (.len (aV 2)) <| sL (tP tI (tS 3 tI)) [(aI 0),(aV 2)] <| sB (.cmp .lt i6 (aR 4 [i0]) (aV 3)) <| sI (aV 5) (sB (.idx (aR 4 [i1]) (aR 4 [i0])) <| sB (.get (aR 4 [i1]) (aR 4 [i0])) <| sB (.mk tI [(aI (-1))]) <| sB (.set (aR 4 [i1]) (aR 4 [i0]) (aV 8)) <| sB (.cmp .eq i6 (aR 4 [i0]) (aR 0 [i1,i0])) <| sI (aV 10) (sB (.idx (aV 9) (aR 4 [i0])) <| sB (.get (aV 9) (aR 4 [i0])) <| sB (.mk tI [(aI 0)]) <| sB (.set (aV 9) (aR 4 [i0]) (aV 13)) <| sB (.bin .add i6 (aR 4 [i0]) (aI 1)) <| sN (tP tI (tS 3 tI)) [(aV 15),(aV 14)]) <| sB (.get (aR 0 [i0]) (aR 4 [i0])) <| sB (.len (aV 11)) <| sL (tP tI (tS 3 tI)) [(aI 0),(aV 9)] <| sB (.cmp .lt i6 (aR 13 [i0]) (aV 12)) <| sI (aV 14) (sB (.get (aV 11) (aR 13 [i0])) <| sB (.idx (aR 13 [i1]) (aR 15 [i0])) <| sB (.get (aR 13 [i1]) (aR 15 [i0])) <| sB (.cmp .lt i6 (aV 17) (aI 0)) <| sI (aV 18) (sB (.bin .add i6 (aR 13 [i0]) (aI 1)) <| sN (tP tI (tS 3 tI)) [(aV 19),(aR 13 [i1])]) <| sB (.idx (aR 13 [i1]) (aR 15 [i0])) <| sB (.get (aR 13 [i1]) (aR 15 [i0])) <| sB (.bin .add i6 (aV 20) (aR 15 [i1,i1])) <| sB (.idx (aR 13 [i1]) (aR 4 [i0])) <| sB (.get (aR 13 [i1]) (aR 4 [i0])) <| sB (.cmp .lt i6 (aV 23) (aI 0)) <| sI (aV 24) (sB (.idx (aR 13 [i1]) (aR 4 [i0])) <| sB (.get (aR 13 [i1]) (aR 4 [i0])) <| sB (.mk tI [(aV 21)]) <| sB (.set (aR 13 [i1]) (aR 4 [i0]) (aV 27)) <| sB (.bin .add i6 (aR 13 [i0]) (aI 1)) <| sN (tP tI (tS 3 tI)) [(aV 29),(aV 28)]) <| sI (aR 0 [i1,i1]) (sB (.idx (aR 13 [i1]) (aR 4 [i0])) <| sB (.get (aR 13 [i1]) (aR 4 [i0])) <| sB (.cmp .gt i6 (aV 21) (aV 26)) <| sI (aV 27) (sB (.idx (aR 13 [i1]) (aR 4 [i0])) <| sB (.get (aR 13 [i1]) (aR 4 [i0])) <| sB (.mk tI [(aV 21)]) <| sB (.set (aR 13 [i1]) (aR 4 [i0]) (aV 30)) <| sB (.bin .add i6 (aR 13 [i0]) (aI 1)) <| sN (tP tI (tS 3 tI)) [(aV 32),(aV 31)]) <| sB (.not (aR 0 [i1,i1])) <| sI (aV 28) (sB (.idx (aR 13 [i1]) (aR 4 [i0])) <| sB (.get (aR 13 [i1]) (aR 4 [i0])) <| sB (.cmp .lt i6 (aV 21) (aV 30)) <| sI (aV 31) (sB (.idx (aR 13 [i1]) (aR 4 [i0])) <| sB (.get (aR 13 [i1]) (aR 4 [i0])) <| sB (.mk tI [(aV 21)]) <| sB (.set (aR 13 [i1]) (aR 4 [i0]) (aV 34)) <| sB (.bin .add i6 (aR 13 [i0]) (aI 1)) <| sN (tP tI (tS 3 tI)) [(aV 36),(aV 35)]) <| sB (.bin .add i6 (aR 13 [i0]) (aI 1)) <| sN (tP tI (tS 3 tI)) [(aV 32),(aR 13 [i1])]) <| sB (.bin .add i6 (aR 13 [i0]) (aI 1)) <| sN (tP tI (tS 3 tI)) [(aV 29),(aR 13 [i1])]) <| sB (.not (aR 0 [i1,i1])) <| sI (aV 25) (sB (.idx (aR 13 [i1]) (aR 4 [i0])) <| sB (.get (aR 13 [i1]) (aR 4 [i0])) <| sB (.cmp .lt i6 (aV 21) (aV 27)) <| sI (aV 28) (sB (.idx (aR 13 [i1]) (aR 4 [i0])) <| sB (.get (aR 13 [i1]) (aR 4 [i0])) <| sB (.mk tI [(aV 21)]) <| sB (.set (aR 13 [i1]) (aR 4 [i0]) (aV 31)) <| sB (.bin .add i6 (aR 13 [i0]) (aI 1)) <| sN (tP tI (tS 3 tI)) [(aV 33),(aV 32)]) <| sB (.bin .add i6 (aR 13 [i0]) (aI 1)) <| sN (tP tI (tS 3 tI)) [(aV 29),(aR 13 [i1])]) <| sB (.bin .add i6 (aR 13 [i0]) (aI 1)) <| sN (tP tI (tS 3 tI)) [(aV 26),(aR 13 [i1])]) <| sU <| sB (.bin .add i6 (aR 4 [i0]) (aI 1)) <| sN (tP tI (tS 3 tI)) [(aV 15),(aR 13 [i1])]) <| sU <| sR (tS 3 tI) [(aR 4 [i1])]
noncomputable def fn48 (x : sg48.p.den) : Option sg48.r.den := st48.den [] [] sg48.r [⟨sg48.p, x⟩]
theorem spec48 : CallSpec Try.prog sg48 fn48 := spec (ss := []) (an := an48) (stm := st48) follows (Specs.nil) (by kernel_rfl) (by kernel_rfl) (fun _ => rfl)
theorem eq48 : fn48 = Pf.impl_delaysFrom := by kernel_rfl
-- impl.arcsInto
def sg49 : Sig := ⟨49,49,[.val i1 (tP tI (tS 37 (tP tI (tP tI tI))))],[.val i0 (tS 24 (tS 37 (tP tI (tP tI tI)))) i0]⟩
def an49 : Ann := ⟨30,[(5,[0,1,2,3,4,5,6,7,8,9,10,11,12])],[(5,[(1,i1)])],[(0,(tP tI (tS 24 (tS 37 (tP tI (tP tI tI))))),[(3,(.c (.h 1))),(10,(.c (.s none (aR 0 [i1])))),(11,(sW (aV 2))),(12,(sW (aR 3 [i0])))],[.dead,(.list 24 (tS 37 (tP tI (tP tI tI))) (aR 3 [i1]) i0 none)])],[],[]⟩
def st49 : Stm := sB (.make 24 24 (tS 37 (tP tI (tP tI tI))) (aR 0 [i0])) <| sB (.len (aR 0 [i1])) <| sL (tP tI (tS 24 (tS 37 (tP tI (tP tI tI))))) [(aI 0),(aV 1)] <| sB (.cmp .lt i6 (aR 3 [i0]) (aV 2)) <| sI (aV 4) (sB (.get (aR 0 [i1]) (aR 3 [i0])) <| sB (.idx (aR 3 [i1]) (aR 5 [i1,i0])) <| sB (.get (aR 3 [i1]) (aR 5 [i1,i0])) <| sB (.lst 37 (tP tI (tP tI tI)) [[(aR 5 [i0]),(aR 5 [i1,i0]),(aR 5 [i1,i1])]]) <| sB (.get (aR 3 [i1]) (aR 5 [i1,i0])) <| sB (.app 24 (aV 9) (aV 8)) <| sB (.idx (aR 3 [i1]) (aR 5 [i1,i0])) <| sB (.get (aR 3 [i1]) (aR 5 [i1,i0])) <| sB (.mk (tS 37 (tP tI (tP tI tI))) [(aV 10)]) <| sB (.set (aR 3 [i1]) (aR 5 [i1,i0]) (aV 13)) <| sB (.bin .add i6 (aR 3 [i0]) (aI 1)) <| sN (tP tI (tS 24 (tS 37 (tP tI (tP tI tI))))) [(aV 15),(aV 14)]) <| sU <| sR (tS 24 (tS 37 (tP tI (tP tI tI)))) [(aR 3 [i1])]
noncomputable def fn49 (x : sg49.p.den) : Option sg49.r.den := st49.den [] [] sg49.r [⟨sg49.p, x⟩]
theorem spec49 : CallSpec Try.prog sg49 fn49 := spec (ss := []) (an := an49) (stm := st49) follows (Specs.nil) (by kernel_rfl) (by kernel_rfl) (fun _ => rfl)
theorem eq49 : fn49 = Pf.impl_arcsInto := by kernel_rfl
-- laws.szArcS
def sg50 : Sig := ⟨50,50,[.val i0 (tS 100 (tP tI (tP tI tI))),.val i0 tI],[.val i0 tI i1]⟩
def an50 : Ann := ⟨12,[],[],[],[],[]⟩
def st50 : Stm := sB (.len (aR 0 [i0])) <| sB (.bin .sub i6 (aR 0 [i1]) (aV 1)) <| sB (.cmp .lt i6 (aV 2) (aI 0)) <| sI (aV 3) (sR tI [(aI (-1))]) <| sR tI [(aV 2)]
noncomputable def fn50 (x : sg50.p.den) : Option sg50.r.den := st50.den [] [] sg50.r [⟨sg50.p, x⟩]
theorem spec50 : CallSpec Try.prog sg50 fn50 := spec (ss := []) (an := an50) (stm := st50) follows (Specs.nil) (by kernel_rfl) (by kernel_rfl) (fun _ => rfl)
theorem eq50 : fn50 = Pf.laws_szArcS := by kernel_rfl
-- spec.l01In
def sg54 : Sig := ⟨54,54,[.val i0 tI,.val i0 tI,.val i0 tI],[.val i0 tB i1]⟩
def an54 : Ann := ⟨15,[],[],[],[],[]⟩
def st54 : Stm := sB (.cmp .ge i6 (aR 0 [i0]) (aR 0 [i1,i0])) <| sI (aV 1) (sB (.cmp .le i6 (aR 0 [i0]) (aR 0 [i1,i1])) <| sR tB [(aV 2)]) <| sR tB [(.bool false)]
noncomputable def fn54 (x : sg54.p.den) : Option sg54.r.den := st54.den [] [] sg54.r [⟨sg54.p, x⟩]
theorem spec54 : CallSpec Try.prog sg54 fn54 := spec (ss := []) (an := an54) (stm := st54) follows (Specs.nil) (by kernel_rfl) (by kernel_rfl) (fun _ => rfl)
theorem eq54 : fn54 = Pf.spec_l01In := by kernel_rfl
-- spec.l36Delays
def sg58 : Sig := ⟨58,58,[.val i1 (tP tI (tS 37 (tP tI (tP tI tI)))),.val i0 tI,.val i0 tB],[.val i0 (tS 3 tI) i0]⟩
def an58 : Ann := ⟨114,[(6,[0,1,2,3,4,5,6,7,8,9,10,11,12,13,14,15,16,17,18,19,20,21,22,23,24]),(18,[0,1,2,3,4,5,6,7,8])],[(6,[(2,i1)])],[(0,(tP tI (tS 24 (tS 37 (tP tI (tP tI tI))))),[(1,(sW (aR 0 [i1,i0]))),(2,(sW (aR 0 [i1,i1]))),(3,(.c (.h 0))),(7,(.c (.h 1))),(8,(.c (.h 2))),(9,(sW (aR 2 [i0])))],[(.box 26 [(sV (aR 0 [i0,i0])),(.s none (aR 0 [i0,i1]))]),(.list 3 tI (.nil (tS 3 tI)) i0 none),(.list 24 (tS 37 (tP tI (tP tI tI))) (aR 2 [i1]) i0 none)]),(4,(tP tI tI),[(1,(sW (aR 0 [i1,i0]))),(2,(sW (aR 0 [i1,i1]))),(3,(.c (.h 0))),(7,(.c (.h 1))),(8,(.c (.h 2))),(10,(sW (aR 5 [i0]))),(11,(sW (aR 8 [i1]))),(12,(sW (aR 8 [i0])))],[(.box 26 [(sV (aR 0 [i0,i0])),(.s none (aR 0 [i0,i1]))]),(.list 3 tI (aR 5 [i1]) i0 none),(.list 24 (tS 37 (tP tI (tP tI tI))) (aR 2 [i1]) i0 none)]),(2,(tP tI (tS 3 tI)),[(1,(sW (aR 0 [i1,i0]))),(2,(sW (aR 0 [i1,i1]))),(3,(.c (.h 0))),(7,(.c (.h 1))),(8,(.c (.h 2))),(10,(sW (aR 5 [i0])))],[(.box 26 [(sV (aR 0 [i0,i0])),(.s none (aR 0 [i0,i1]))]),(.list 3 tI (aR 5 [i1]) i0 none),(.list 24 (tS 37 (tP tI (tP tI tI))) (aR 2 [i1]) i0 none)])],[],[(13,tI,[(1,(sW (aR 0 [i1,i0]))),(2,(sW (aR 0 [i1,i1]))),(3,(.c (.h 0))),(7,(.c (.h 1))),(8,(.c (.h 2))),(10,(sW (aR 5 [i0]))),(11,(sW (aV 7)))],[(.box 26 [(sV (aR 0 [i0,i0])),(.s none (aR 0 [i0,i1]))]),(.list 3 tI (aR 5 [i1]) i0 none),(.list 24 (tS 37 (tP tI (tP tI tI))) (aR 2 [i1]) i0 none)])]⟩
def st58 : Stm := sB (.make 24 24 (tS 37 (tP tI (tP tI tI))) (aR 0 [i0,i0])) <| sL (tP tI (tS 24 (tS 37 (tP tI (tP tI tI))))) [(aI 0),(aV 1)] <| sB (.len (aR 0 [i0,i1])) <| sB (.cmp .lt i6 (aR 2 [i0]) (aV 3)) <| sI (aV 4) (sB (.get (aR 0 [i0,i1]) (aR 2 [i0])) <| sB (.get (aR 0 [i0,i1]) (aR 2 [i0])) <| sB (.idx (aR 2 [i1]) (aR 6 [i1,i0])) <| sB (.get (aR 2 [i1]) (aR 6 [i1,i0])) <| sB (.get (aR 0 [i0,i1]) (aR 2 [i0])) <| sB (.lst 37 (tP tI (tP tI tI)) [[(aR 9 [i0]),(aR 9 [i1,i0]),(aR 9 [i1,i1])]]) <| sB (.get (aR 2 [i1]) (aR 6 [i1,i0])) <| sB (.app 24 (aV 11) (aV 10)) <| sB (.idx (aR 2 [i1]) (aR 5 [i1,i0])) <| sB (.same (aR 5 [i1,i0]) (aR 6 [i1,i0])) <| sB (.get (aR 2 [i1]) (aR 6 [i1,i0])) <| sB (.mk (tS 37 (tP tI (tP tI tI))) [(aV 12)]) <| sB (.set (aR 2 [i1]) (aR 6 [i1,i0]) (aV 16)) <| sB (.bin .add i6 (aR 2 [i0]) (aI 1)) <| sN (tP tI (tS 24 (tS 37 (tP tI (tP tI tI))))) [(aV 18),(aV 17)]) <| sU <| sL (tP tI (tS 3 tI)) [(aI 0),(.nil (tS 3 tI))] <| sB (.cmp .lt i6 (aR 5 [i0]) (aR 0 [i0,i0])) <| sI (aV 6) (sJ tI (sB (.cmp .eq i6 (aR 5 [i0]) (aR 0 [i1,i0])) <| sI (aV 7) (sN tI [(aI 0)]) <| sN tI [(aI (-1))]) <| sL (tP tI tI) [(aI 0),(aV 7)] <| sB (.idx (aR 2 [i1]) (aR 5 [i0])) <| sB (.get (aR 2 [i1]) (aR 5 [i0])) <| sB (.len (aV 10)) <| sB (.cmp .lt i6 (aR 8 [i0]) (aV 11)) <| sI (aV 12) (sB (.idx (aR 2 [i1]) (aR 5 [i0])) <| sB (.get (aR 2 [i1]) (aR 5 [i0])) <| sB (.get (aV 14) (aR 8 [i0])) <| sB (.idx (aR 5 [i1]) (aR 15 [i0])) <| sB (.get (aR 5 [i1]) (aR 15 [i0])) <| sB (.cmp .lt i6 (aV 17) (aI 0)) <| sI (aV 18) (sB (.bin .add i6 (aR 8 [i0]) (aI 1)) <| sN (tP tI tI) [(aV 19),(aR 8 [i1])]) <| sB (.idx (aR 5 [i1]) (aR 15 [i0])) <| sB (.get (aR 5 [i1]) (aR 15 [i0])) <| sB (.bin .add i6 (aV 20) (aR 15 [i1,i1])) <| sB (.cmp .lt i6 (aR 8 [i1]) (aI 0)) <| sI (aV 22) (sB (.bin .add i6 (aR 8 [i0]) (aI 1)) <| sN (tP tI tI) [(aV 23),(aV 21)]) <| sI (aR 0 [i1,i1]) (sB (.cmp .lt i6 (aV 21) (aR 8 [i1])) <| sI (aV 23) (sB (.bin .add i6 (aR 8 [i0]) (aI 1)) <| sN (tP tI tI) [(aV 24),(aV 21)]) <| sB (.not (aR 0 [i1,i1])) <| sI (aV 24) (sB (.cmp .gt i6 (aV 21) (aR 8 [i1])) <| sI (aV 25) (sB (.bin .add i6 (aR 8 [i0]) (aI 1)) <| sN (tP tI tI) [(aV 26),(aV 21)]) <| sB (.bin .add i6 (aR 8 [i0]) (aI 1)) <| sN (tP tI tI) [(aV 26),(aR 8 [i1])]) <| sB (.bin .add i6 (aR 8 [i0]) (aI 1)) <| sN (tP tI tI) [(aV 25),(aR 8 [i1])]) <| sB (.not (aR 0 [i1,i1])) <| sI (aV 23) (sB (.cmp .gt i6 (aV 21) (aR 8 [i1])) <| sI (aV 24) (sB (.bin .add i6 (aR 8 [i0]) (aI 1)) <| sN (tP tI tI) [(aV 25),(aV 21)]) <| sB (.bin .add i6 (aR 8 [i0]) (aI 1)) <| sN (tP tI tI) [(aV 25),(aR 8 [i1])]) <| sB (.bin .add i6 (aR 8 [i0]) (aI 1)) <| sN (tP tI tI) [(aV 24),(aR 8 [i1])]) <| sU <| sB (.lst 3 tI [[(aR 8 [i1])]]) <| sB (.app 8 (aR 5 [i1]) (aV 13)) <| sB (.bin .add i6 (aR 5 [i0]) (aI 1)) <| sN (tP tI (tS 3 tI)) [(aV 15),(aV 14)]) <| sU <| sR (tS 3 tI) [(aR 5 [i1])]
noncomputable def fn58 (x : sg58.p.den) : Option sg58.r.den := st58.den [] [] sg58.r [⟨sg58.p, x⟩]
theorem spec58 : CallSpec Try.prog sg58 fn58 := spec (ss := []) (an := an58) (stm := st58) follows (Specs.nil) (by kernel_rfl) (by kernel_rfl) (fun _ => rfl)
theorem eq58 : fn58 = Pf.spec_l36Delays := by kernel_rfl
-- laws.markArcS
def sg59 : Sig := ⟨59,59,[.own i0 (tS 37 (tP tI (tP tI tI))) i1,.val i0 tI],[.val i0 tI i1]⟩
def an59 : Ann := ⟨34,[],[],[(0,(tP tI (tP tI (tS 37 (tP tI (tP tI tI))))),[(0,(.c (.h 0))),(1,(sW (aR 1 [i0]))),(5,(sW (aR 1 [i1,i0])))],[(.list 37 (tP tI (tP tI tI)) (aR 1 [i1,i1]) i0 none)])],[],[]⟩
def st59 : Stm := sL (tP tI (tP tI (tS 37 (tP tI (tP tI tI))))) [(aR 0 [i1]),(aI 0),(aR 0 [i0])] <| sB (.len (aR 1 [i1,i1])) <| sB (.cmp .lt i6 (aR 1 [i1,i0]) (aV 2)) <| sI (aV 3) (sB (.idx (aR 1 [i1,i1]) (aR 1 [i1,i0])) <| sB (.get (aR 1 [i1,i1]) (aR 1 [i1,i0])) <| sB (.mk (tP tI (tP tI tI)) [(aR 1 [i0]),(aR 5 [i1,i0]),(aR 5 [i1,i1])]) <| sB (.set (aR 1 [i1,i1]) (aR 1 [i1,i0]) (aV 6)) <| sB (.bin .add i6 (aR 1 [i0]) (aI 1)) <| sB (.idx (aV 7) (aR 1 [i1,i0])) <| sB (.get (aV 7) (aR 1 [i1,i0])) <| sB (.mk (tP tI (tP tI tI)) [(aR 10 [i0]),(aV 8),(aR 10 [i1,i1])]) <| sB (.set (aV 7) (aR 1 [i1,i0]) (aV 11)) <| sB (.bin .add i6 (aV 8) (aI 1)) <| sB (.idx (aV 12) (aR 1 [i1,i0])) <| sB (.get (aV 12) (aR 1 [i1,i0])) <| sB (.mk (tP tI (tP tI tI)) [(aR 15 [i0]),(aR 15 [i1,i0]),(aV 13)]) <| sB (.set (aV 12) (aR 1 [i1,i0]) (aV 16)) <| sB (.bin .add i6 (aV 13) (aI 1)) <| sB (.bin .add i6 (aR 1 [i1,i0]) (aI 1)) <| sN (tP tI (tP tI (tS 37 (tP tI (tP tI tI))))) [(aV 18),(aV 19),(aV 17)]) <| sU <| sR (tP tI (tS 37 (tP tI (tP tI tI)))) [(aR 1 [i0]),(aR 1 [i1,i1])]
noncomputable def fn59 (x : sg59.p.den) : Option sg59.r.den := st59.den [] [] sg59.r [⟨sg59.p, x⟩]
theorem spec59 : CallSpec Try.prog sg59 fn59 := spec (ss := []) (an := an59) (stm := st59) follows (Specs.nil) (by kernel_rfl) (by kernel_rfl) (fun _ => rfl)
theorem eq59 : fn59 = Pf.laws_markArcS := by kernel_rfl
-- laws.toArc
def sg69 : Sig := ⟨69,69,[.val i1 (tP tI (tP tI tI))],[.val i1 (tP tI (tP tI tI)) i1]⟩
def an69 : Ann := ⟨14,[],[],[],[],[]⟩
def st69 : Stm := sR (tP tI (tP tI tI)) [(aR 0 [i0]),(aR 0 [i1,i0]),(aR 0 [i1,i1])]
noncomputable def fn69 (x : sg69.p.den) : Option sg69.r.den := st69.den [] [] sg69.r [⟨sg69.p, x⟩]
theorem spec69 : CallSpec Try.prog sg69 fn69 := spec (ss := []) (an := an69) (stm := st69) follows (Specs.nil) (by kernel_rfl) (by kernel_rfl) (fun _ => rfl)
theorem eq69 : fn69 = Pf.laws_toArc := by kernel_rfl
-- laws.eqArc
def sg70 : Sig := ⟨70,70,[.val i1 (tP tI (tP tI tI)),.val i1 (tP tI (tP tI tI))],[.val i0 tB i1]⟩
def an70 : Ann := ⟨20,[],[],[],[],[]⟩
def st70 : Stm := sB (.cmp .ne i6 (aR 0 [i0,i0]) (aR 0 [i1,i0])) <| sI (aV 1) (sR tB [(.bool false)]) <| sB (.cmp .ne i6 (aR 0 [i0,i1,i0]) (aR 0 [i1,i1,i0])) <| sI (aV 2) (sR tB [(.bool false)]) <| sB (.cmp .ne i6 (aR 0 [i0,i1,i1]) (aR 0 [i1,i1,i1])) <| sI (aV 3) (sR tB [(.bool false)]) <| sR tB [(.bool true)]
noncomputable def fn70 (x : sg70.p.den) : Option sg70.r.den := st70.den [] [] sg70.r [⟨sg70.p, x⟩]
theorem spec70 : CallSpec Try.prog sg70 fn70 := spec (ss := []) (an := an70) (stm := st70) follows (Specs.nil) (by kernel_rfl) (by kernel_rfl) (fun _ => rfl)
theorem eq70 : fn70 = Pf.laws_eqArc := by kernel_rfl
-- impl.TimingOk
def sg15 : Sig := ⟨15,15,[.val i1 (tP tI (tS 37 (tP tI (tP tI tI))))],[.val i0 tB i1]⟩
def an15 : Ann := ⟨45,[],[],[(0,tI,[(1,(.c (.h 0))),(16,(.c (.s none (aR 0 [i1])))),(17,(sW (aV 5))),(18,(sW (aV 6)))],[(.box 26 [(sV (aR 0 [i0])),(.s none (aR 0 [i1]))])])],[],[]⟩
def st15 : Stm := sB (.call 47 [(aR 0 [i0]),(aI 0),(aI 500)]) <| sB (.not (aV 1)) <| sI (aV 2) (sR tB [(.bool false)]) <| sB (.len (aR 0 [i1])) <| sB (.cmp .gt i6 (aV 3) (aI 2000)) <| sI (aV 4) (sR tB [(.bool false)]) <| sB (.len (aR 0 [i1])) <| sL tI [(aI 0)] <| sB (.cmp .lt i6 (aV 6) (aV 5)) <| sI (aV 7) (sB (.get (aR 0 [i1]) (aV 6)) <| sB (.bin .sub i6 (aR 0 [i0]) (aI 1)) <| sB (.call 47 [(aR 8 [i1,i0]),(aI 0),(aV 9)]) <| sB (.not (aV 10)) <| sI (aV 11) (sU <| sR tB [(.bool false)]) <| sB (.bin .sub i6 (aR 8 [i1,i0]) (aI 1)) <| sB (.call 47 [(aR 8 [i0]),(aI 0),(aV 12)]) <| sB (.not (aV 13)) <| sI (aV 14) (sU <| sR tB [(.bool false)]) <| sB (.call 47 [(aR 8 [i1,i1]),(aI 0),(aI 100)]) <| sB (.not (aV 15)) <| sI (aV 16) (sU <| sR tB [(.bool false)]) <| sB (.bin .add i6 (aV 6) (aI 1)) <| sN tI [(aV 17)]) <| sU <| sR tB [(.bool true)]
noncomputable def fn15 (x : sg15.p.den) : Option sg15.r.den := st15.den [⟨sg47.key, sg47.p, sg47.r, fn47⟩] [] sg15.r [⟨sg15.p, x⟩]
theorem spec15 : CallSpec Try.prog sg15 fn15 := spec (ss := [sg47]) (an := an15) (stm := st15) follows (Specs.cons spec47 (Specs.nil) (by kernel_rfl)) (by kernel_rfl) (by kernel_rfl) (fun _ => rfl)
theorem eq15 : fn15 = Pf.impl_TimingOk := by kernel_rfl
-- laws.szTimingGraph
def sg17 : Sig := ⟨17,17,[.val i1 (tP tI (tS 100 (tP tI (tP tI tI)))),.val i0 tI],[.val i0 tI i1]⟩
def an17 : Ann := ⟨12,[],[],[],[],[]⟩
def st17 : Stm := sB (.call 50 [(aR 0 [i0,i1]),(aR 0 [i1])]) <| sB (.cmp .lt i6 (aV 1) (aI 0)) <| sI (aV 2) (sR tI [(aI (-1))]) <| sR tI [(aV 1)]
noncomputable def fn17 (x : sg17.p.den) : Option sg17.r.den := st17.den [⟨sg50.key, sg50.p, sg50.r, fn50⟩] [] sg17.r [⟨sg17.p, x⟩]
theorem spec17 : CallSpec Try.prog sg17 fn17 := spec (ss := [sg50]) (an := an17) (stm := st17) follows (Specs.cons spec50 (Specs.nil) (by kernel_rfl)) (by kernel_rfl) (by kernel_rfl) (fun _ => rfl)
theorem eq17 : fn17 = Pf.laws_szTimingGraph := by kernel_rfl
-- laws.markTimingGraph
def sg29 : Sig := ⟨29,29,[.own i1 (tP tI (tS 37 (tP tI (tP tI tI)))) i1,.val i0 tI],[.val i0 tI i1]⟩
def an29 : Ann := ⟨10,[],[],[],[],[]⟩
def st29 : Stm := sB (.call 59 [(aR 0 [i0,i1]),(aR 0 [i1])]) <| sR (tP tI (tS 37 (tP tI (tP tI tI)))) [(aR 1 [i0]),(aR 1 [i1])]
noncomputable def fn29 (x : sg29.p.den) : Option sg29.r.den := st29.den [⟨sg59.key, sg59.p, sg59.r, fn59⟩] [] sg29.r [⟨sg29.p, x⟩]
theorem spec29 : CallSpec Try.prog sg29 fn29 := spec (ss := [sg59]) (an := an29) (stm := st29) follows (Specs.cons spec59 (Specs.nil) (by kernel_rfl)) (by kernel_rfl) (by kernel_rfl) (fun _ => rfl)
theorem eq29 : fn29 = Pf.laws_markTimingGraph := by kernel_rfl
-- spec.TimingOk
def sg51 : Sig := ⟨51,51,[.val i1 (tP tI (tS 37 (tP tI (tP tI tI))))],[.val i0 tB i1]⟩
def an51 : Ann := ⟨50,[],[],[(0,tI,[(1,(.c (.h 0))),(3,(sW (aV 5)))],[(.box 26 [(sV (aR 0 [i0])),(.s none (aR 0 [i1]))])])],[],[]⟩
def st51 : Stm := sB (.call 54 [(aR 0 [i0]),(aI 0),(aI 500)]) <| sB (.not (aV 1)) <| sI (aV 2) (sR tB [(.bool false)]) <| sB (.len (aR 0 [i1])) <| sB (.cmp .gt i6 (aV 3) (aI 2000)) <| sI (aV 4) (sR tB [(.bool false)]) <| sL tI [(aI 0)] <| sB (.len (aR 0 [i1])) <| sB (.cmp .lt i6 (aV 5) (aV 6)) <| sI (aV 7) (sB (.get (aR 0 [i1]) (aV 5)) <| sB (.cmp .lt i6 (aR 8 [i0]) (aI 0)) <| sI (aV 9) (sU <| sR tB [(.bool false)]) <| sB (.cmp .ge i6 (aR 8 [i0]) (aR 8 [i1,i0])) <| sI (aV 10) (sU <| sR tB [(.bool false)]) <| sB (.cmp .ge i6 (aR 8 [i1,i0]) (aR 0 [i0])) <| sI (aV 11) (sU <| sR tB [(.bool false)]) <| sB (.call 54 [(aR 8 [i1,i1]),(aI 0),(aI 100)]) <| sB (.not (aV 12)) <| sI (aV 13) (sU <| sR tB [(.bool false)]) <| sB (.bin .add i6 (aV 5) (aI 1)) <| sN tI [(aV 14)]) <| sU <| sR tB [(.bool true)]
noncomputable def fn51 (x : sg51.p.den) : Option sg51.r.den := st51.den [⟨sg54.key, sg54.p, sg54.r, fn54⟩] [] sg51.r [⟨sg51.p, x⟩]
theorem spec51 : CallSpec Try.prog sg51 fn51 := spec (ss := [sg54]) (an := an51) (stm := st51) follows (Specs.cons spec54 (Specs.nil) (by kernel_rfl)) (by kernel_rfl) (by kernel_rfl) (fun _ => rfl)
theorem eq51 : fn51 = Pf.spec_TimingOk := by kernel_rfl
-- laws.toArcS
def sg52 : Sig := ⟨52,52,[.val i0 (tS 100 (tP tI (tP tI tI)))],[.val i0 (tS 37 (tP tI (tP tI tI))) i0]⟩
def an52 : Ann := ⟨23,[],[],[(0,(tP tI (tS 37 (tP tI (tP tI tI)))),[(0,(.c (.s none (aV 0)))),(3,(.c (.h 0))),(4,(sW (aR 3 [i0])))],[(.list 37 (tP tI (tP tI tI)) (aR 3 [i1]) i0 none)])],[],[]⟩
def st52 : Stm := sB (.len (aV 0)) <| sB (.make 24 37 (tP tI (tP tI tI)) (aV 1)) <| sL (tP tI (tS 37 (tP tI (tP tI tI)))) [(aI 0),(aV 2)] <| sB (.len (aV 0)) <| sB (.cmp .lt i6 (aR 3 [i0]) (aV 4)) <| sI (aV 5) (sB (.get (aV 0) (aR 3 [i0])) <| sB (.call 69 [(aR 6 [i0]),(aR 6 [i1,i0]),(aR 6 [i1,i1])]) <| sB (.idx (aR 3 [i1]) (aR 3 [i0])) <| sB (.get (aR 3 [i1]) (aR 3 [i0])) <| sB (.mk (tP tI (tP tI tI)) [(aR 7 [i0]),(aR 7 [i1,i0]),(aR 7 [i1,i1])]) <| sB (.set (aR 3 [i1]) (aR 3 [i0]) (aV 10)) <| sB (.bin .add i6 (aR 3 [i0]) (aI 1)) <| sN (tP tI (tS 37 (tP tI (tP tI tI)))) [(aV 12),(aV 11)]) <| sU <| sR (tS 37 (tP tI (tP tI tI))) [(aR 3 [i1])]
noncomputable def fn52 (x : sg52.p.den) : Option sg52.r.den := st52.den [⟨sg69.key, sg69.p, sg69.r, fn69⟩] [] sg52.r [⟨sg52.p, x⟩]
theorem spec52 : CallSpec Try.prog sg52 fn52 := spec (ss := [sg69]) (an := an52) (stm := st52) follows (Specs.cons spec69 (Specs.nil) (by kernel_rfl)) (by kernel_rfl) (by kernel_rfl) (fun _ => rfl)
theorem eq52 : fn52 = Pf.laws_toArcS := by kernel_rfl
-- laws.eqArcS
def sg53 : Sig := ⟨53,53,[.val i0 (tS 37 (tP tI (tP tI tI))),.val i0 (tS 37 (tP tI (tP tI tI)))],[.val i0 tB i1]⟩
def an53 : Ann := ⟨27,[(6,[0,1,2,3,4,5,6,7,8,9])],[],[(0,tI,[(0,(.c (.s none (aR 0 [i0])))),(1,(.c (.s none (aR 0 [i1])))),(5,(sW (aV 4)))],[])],[],[]⟩
def st53 : Stm := sB (.len (aR 0 [i0])) <| sB (.len (aR 0 [i1])) <| sB (.cmp .ne i6 (aV 1) (aV 2)) <| sI (aV 3) (sR tB [(.bool false)]) <| sL tI [(aI 0)] <| sB (.len (aR 0 [i0])) <| sB (.cmp .lt i6 (aV 4) (aV 5)) <| sI (aV 6) (sB (.get (aR 0 [i0]) (aV 4)) <| sB (.get (aR 0 [i1]) (aV 4)) <| sB (.call 70 [(aR 7 [i0]),(aR 7 [i1,i0]),(aR 7 [i1,i1]),(aR 8 [i0]),(aR 8 [i1,i0]),(aR 8 [i1,i1])]) <| sB (.not (aV 9)) <| sI (aV 10) (sU <| sR tB [(.bool false)]) <| sB (.bin .add i6 (aV 4) (aI 1)) <| sN tI [(aV 11)]) <| sU <| sR tB [(.bool true)]
noncomputable def fn53 (x : sg53.p.den) : Option sg53.r.den := st53.den [⟨sg70.key, sg70.p, sg70.r, fn70⟩] [] sg53.r [⟨sg53.p, x⟩]
theorem spec53 : CallSpec Try.prog sg53 fn53 := spec (ss := [sg70]) (an := an53) (stm := st53) follows (Specs.cons spec70 (Specs.nil) (by kernel_rfl)) (by kernel_rfl) (by kernel_rfl) (fun _ => rfl)
theorem eq53 : fn53 = Pf.laws_eqArcS := by kernel_rfl
-- impl.ShortestDelays
def sg14 : Sig := ⟨14,14,[.val i1 (tP tI (tS 37 (tP tI (tP tI tI)))),.val i0 tI],[.val i0 (tS 3 tI) i0]⟩
def an14 : Ann := ⟨20,[],[],[],[],[]⟩
def st14 : Stm := sB (.call 15 [(aR 0 [i0,i0]),(aR 0 [i0,i1])]) <| sB (.not (aV 1)) <| sI (aV 2) (sR (tS 3 tI) [(.nil (tS 3 tI))]) <| sB (.bin .sub i6 (aR 0 [i0,i0]) (aI 1)) <| sB (.call 47 [(aR 0 [i1]),(aI 0),(aV 3)]) <| sB (.not (aV 4)) <| sI (aV 5) (sR (tS 3 tI) [(.nil (tS 3 tI))]) <| sB (.call 49 [(aR 0 [i0,i0]),(aR 0 [i0,i1])]) <| sB (.call 48 [(aV 6),(aR 0 [i1]),(.bool false)]) <| sR (tS 3 tI) [(aV 7)]
noncomputable def fn14 (x : sg14.p.den) : Option sg14.r.den := st14.den [⟨sg15.key, sg15.p, sg15.r, fn15⟩, ⟨sg47.key, sg47.p, sg47.r, fn47⟩, ⟨sg49.key, sg49.p, sg49.r, fn49⟩, ⟨sg48.key, sg48.p, sg48.r, fn48⟩] [] sg14.r [⟨sg14.p, x⟩]
theorem spec14 : CallSpec Try.prog sg14 fn14 := spec (ss := [sg15, sg47, sg49, sg48]) (an := an14) (stm := st14) follows (Specs.cons spec15 (Specs.cons spec47 (Specs.cons spec49 (Specs.cons spec48 (Specs.nil) (by kernel_rfl)) (by kernel_rfl)) (by kernel_rfl)) (by kernel_rfl)) (by kernel_rfl) (by kernel_rfl) (fun _ => rfl)
theorem eq14 : fn14 = Pf.impl_ShortestDelays := by kernel_rfl
-- laws.toTimingGraph
def sg19 : Sig := ⟨19,19,[.val i1 (tP tI (tS 100 (tP tI (tP tI tI))))],[.val i1 (tP tI (tS 37 (tP tI (tP tI tI)))) i0]⟩
def an19 : Ann := ⟨12,[],[],[],[],[]⟩
def st19 : Stm := sB (.call 52 [(aR 0 [i1])]) <| sR (tP tI (tS 37 (tP tI (tP tI tI)))) [(aR 0 [i0]),(aV 1)]
noncomputable def fn19 (x : sg19.p.den) : Option sg19.r.den := st19.den [⟨sg52.key, sg52.p, sg52.r, fn52⟩] [] sg19.r [⟨sg19.p, x⟩]
theorem spec19 : CallSpec Try.prog sg19 fn19 := spec (ss := [sg52]) (an := an19) (stm := st19) follows (Specs.cons spec52 (Specs.nil) (by kernel_rfl)) (by kernel_rfl) (by kernel_rfl) (fun _ => rfl)
theorem eq19 : fn19 = Pf.laws_toTimingGraph := by kernel_rfl
-- laws.eqTimingGraph
def sg22 : Sig := ⟨22,22,[.val i1 (tP tI (tS 37 (tP tI (tP tI tI)))),.val i1 (tP tI (tS 37 (tP tI (tP tI tI))))],[.val i0 tB i1]⟩
def an22 : Ann := ⟨16,[],[],[],[],[]⟩
def st22 : Stm := sB (.cmp .ne i6 (aR 0 [i0,i0]) (aR 0 [i1,i0])) <| sI (aV 1) (sR tB [(.bool false)]) <| sB (.call 53 [(aR 0 [i0,i1]),(aR 0 [i1,i1])]) <| sB (.not (aV 2)) <| sI (aV 3) (sR tB [(.bool false)]) <| sR tB [(.bool true)]
noncomputable def fn22 (x : sg22.p.den) : Option sg22.r.den := st22.den [⟨sg53.key, sg53.p, sg53.r, fn53⟩] [] sg22.r [⟨sg22.p, x⟩]
theorem spec22 : CallSpec Try.prog sg22 fn22 := spec (ss := [sg53]) (an := an22) (stm := st22) follows (Specs.cons spec53 (Specs.nil) (by kernel_rfl)) (by kernel_rfl) (by kernel_rfl) (fun _ => rfl)
theorem eq22 : fn22 = Pf.laws_eqTimingGraph := by kernel_rfl
-- spec.l36Node
def sg57 : Sig := ⟨57,57,[.val i1 (tP tI (tS 37 (tP tI (tP tI tI)))),.val i0 tI],[.val i0 tB i1]⟩
def an57 : Ann := ⟨17,[],[],[],[],[]⟩
def st57 : Stm := sB (.call 51 [(aR 0 [i0,i0]),(aR 0 [i0,i1])]) <| sI (aV 1) (sB (.cmp .ge i6 (aR 0 [i1]) (aI 0)) <| sI (aV 2) (sB (.cmp .lt i6 (aR 0 [i1]) (aR 0 [i0,i0])) <| sR tB [(aV 3)]) <| sR tB [(.bool false)]) <| sR tB [(.bool false)]
noncomputable def fn57 (x : sg57.p.den) : Option sg57.r.den := st57.den [⟨sg51.key, sg51.p, sg51.r, fn51⟩] [] sg57.r [⟨sg57.p, x⟩]
theorem spec57 : CallSpec Try.prog sg57 fn57 := spec (ss := [sg51]) (an := an57) (stm := st57) follows (Specs.cons spec51 (Specs.nil) (by kernel_rfl)) (by kernel_rfl) (by kernel_rfl) (fun _ => rfl)
theorem eq57 : fn57 = Pf.spec_l36Node := by kernel_rfl
-- spec.ShortestDelays
def sg32 : Sig := ⟨32,32,[.val i1 (tP tI (tS 37 (tP tI (tP tI tI)))),.val i0 tI],[.val i0 (tS 3 tI) i0]⟩
def an32 : Ann := ⟨13,[],[],[],[],[]⟩
def st32 : Stm := sB (.call 57 [(aR 0 [i0,i0]),(aR 0 [i0,i1]),(aR 0 [i1])]) <| sB (.not (aV 1)) <| sI (aV 2) (sR (tS 3 tI) [(.nil (tS 3 tI))]) <| sB (.call 58 [(aR 0 [i0,i0]),(aR 0 [i0,i1]),(aR 0 [i1]),(.bool true)]) <| sR (tS 3 tI) [(aV 3)]
noncomputable def fn32 (x : sg32.p.den) : Option sg32.r.den := st32.den [⟨sg57.key, sg57.p, sg57.r, fn57⟩, ⟨sg58.key, sg58.p, sg58.r, fn58⟩] [] sg32.r [⟨sg32.p, x⟩]
theorem spec32 : CallSpec Try.prog sg32 fn32 := spec (ss := [sg57, sg58]) (an := an32) (stm := st32) follows (Specs.cons spec57 (Specs.cons spec58 (Specs.nil) (by kernel_rfl)) (by kernel_rfl)) (by kernel_rfl) (by kernel_rfl) (fun _ => rfl)
theorem eq32 : fn32 = Pf.spec_ShortestDelays := by kernel_rfl
-- laws.FnExactShortestDelays
def sg7 : Sig := ⟨7,7,[.val i1 (tP tI (tS 100 (tP tI (tP tI tI)))),.val i0 tI],[.val i0 tB i1]⟩
def an7 : Ann := ⟨74,[(10,[0,1,2,3,4])],[],[],[],[]⟩
def st7 : Stm := sB (.call 17 [(aR 0 [i0,i0]),(aR 0 [i0,i1]),(aI 1048576)]) <| sB (.cmp .lt i6 (aV 1) (aI 0)) <| sI (aV 2) (sR tB [(.bool true)]) <| sB (.call 19 [(aR 0 [i0,i0]),(aR 0 [i0,i1])]) <| sB (.call 32 [(aR 3 [i0]),(aR 3 [i1]),(aR 0 [i1])]) <| sB (.call 19 [(aR 0 [i0,i0]),(aR 0 [i0,i1])]) <| sB (.call 14 [(aR 5 [i0]),(aR 5 [i1]),(aR 0 [i1])]) <| sB (.call 23 [(aV 6),(aV 4)]) <| sB (.not (aV 7)) <| sI (aV 8) (sR tB [(.bool false)]) <| sB (.call 19 [(aR 0 [i0,i0]),(aR 0 [i0,i1])]) <| sB (.call 22 [(aR 5 [i0]),(aR 5 [i1]),(aR 9 [i0]),(aR 9 [i1])]) <| sB (.not (aV 10)) <| sI (aV 11) (sR tB [(.bool false)]) <| sB (.call 29 [(aR 5 [i0]),(aR 5 [i1]),(aI 1)]) <| sB (.cmp .lt i6 (aR 12 [i0]) (aI 0)) <| sI (aV 13) (sR tB [(.bool false)]) <| sB (.call 23 [(aV 6),(aV 4)]) <| sB (.not (aV 14)) <| sI (aV 15) (sR tB [(.bool false)]) <| sB (.call 30 [(aV 6),(aI 1)]) <| sB (.call 31 [(aR 16 [i1]),(aI 1)]) <| sB (.cmp .lt i6 (aV 17) (aI 0)) <| sI (aV 18) (sR tB [(.bool false)]) <| sB (.cmp .ne i6 (aV 17) (aR 16 [i0])) <| sI (aV 19) (sR tB [(.bool false)]) <| sB (.call 19 [(aR 0 [i0,i0]),(aR 0 [i0,i1])]) <| sB (.call 14 [(aR 20 [i0]),(aR 20 [i1]),(aR 0 [i1])]) <| sB (.call 23 [(aV 21),(aV 4)]) <| sB (.not (aV 22)) <| sI (aV 23) (sR tB [(.bool false)]) <| sB (.call 31 [(aR 16 [i1]),(aI 1)]) <| sB (.cmp .lt i6 (aV 24) (aI 0)) <| sI (aV 25) (sR tB [(.bool false)]) <| sB (.cmp .ne i6 (aV 24) (aR 16 [i0])) <| sI (aV 26) (sR tB [(.bool false)]) <| sR tB [(.bool true)]
noncomputable def fn7 (x : sg7.p.den) : Option sg7.r.den := st7.den [⟨sg17.key, sg17.p, sg17.r, fn17⟩, ⟨sg19.key, sg19.p, sg19.r, fn19⟩, ⟨sg32.key, sg32.p, sg32.r, fn32⟩, ⟨sg14.key, sg14.p, sg14.r, fn14⟩, ⟨sg23.key, sg23.p, sg23.r, fn23⟩, ⟨sg22.key, sg22.p, sg22.r, fn22⟩, ⟨sg29.key, sg29.p, sg29.r, fn29⟩, ⟨sg30.key, sg30.p, sg30.r, fn30⟩, ⟨sg31.key, sg31.p, sg31.r, fn31⟩] [] sg7.r [⟨sg7.p, x⟩]
theorem spec7 : CallSpec Try.prog sg7 fn7 := spec (ss := [sg17, sg19, sg32, sg14, sg23, sg22, sg29, sg30, sg31]) (an := an7) (stm := st7) follows (Specs.cons spec17 (Specs.cons spec19 (Specs.cons spec32 (Specs.cons spec14 (Specs.cons spec23 (Specs.cons spec22 (Specs.cons spec29 (Specs.cons spec30 (Specs.cons spec31 (Specs.nil) (by kernel_rfl)) (by kernel_rfl)) (by kernel_rfl)) (by kernel_rfl)) (by kernel_rfl)) (by kernel_rfl)) (by kernel_rfl)) (by kernel_rfl)) (by kernel_rfl)) (by kernel_rfl) (by kernel_rfl) (fun _ => rfl)
theorem eq7 : fn7 = Pf.laws_FnExactShortestDelays := by kernel_rfl
end Go.Proofs.Ytnllpdmiijbehaa
