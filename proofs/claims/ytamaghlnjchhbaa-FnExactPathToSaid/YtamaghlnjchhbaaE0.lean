/-
  Own work, printed by my tool: signatures, annotations and the compiled statements of the functions that the laws reach; each one's contract (part 0).
-/
import Derived.Test.YtamaghlnjchhbaaD0
import Derived.Test.YtamaghlnjchhbaaProg
namespace Go.Proofs.Ytamaghlnjchhbaa
open Go Go.Pu Go.Proofs
theorem follows : Try.prog.follows .mixedOrders = true := by kernel_rfl
-- spec.PathTo
def sg15 : Sig := ⟨15,15,[.val i1 (tP (tS 3 tI) (tS 3 tI)),.val i0 tI],[.val i0 (tS 3 tI) i0]⟩
def an15 : Ann := ⟨80,[],[],[(0,(tP tI (tS 3 tI)),[(1,(sW (aR 9 [i0]))),(2,(.c (.h 0))),(5,(.c (.h 1)))],[(.box 27 [(.s none (aR 0 [i0,i0])),(.s none (aR 0 [i0,i1]))]),(.list 3 tI (aR 9 [i1]) i1 none)]),(2,(tP tI (tS 3 tI)),[(5,(.c (.h 1))),(6,(.c (.h 2))),(7,(sW (aR 13 [i0])))],[.dead,(.list 3 tI (aR 9 [i1]) i1 none),(.list 3 tI (aR 13 [i1]) i0 none)])],[],[]⟩
def st15 : Stm := sB (.len (aR 0 [i0,i0])) <| sB (.len (aR 0 [i0,i1])) <| sB (.cmp .ne i6 (aV 1) (aV 2)) <| sI (aV 3) (sR (tS 3 tI) [(.nil (tS 3 tI))]) <| sB (.cmp .lt i6 (aR 0 [i1]) (aI 0)) <| sI (aV 4) (sR (tS 3 tI) [(.nil (tS 3 tI))]) <| sB (.len (aR 0 [i0,i0])) <| sB (.cmp .ge i6 (aR 0 [i1]) (aV 5)) <| sI (aV 6) (sR (tS 3 tI) [(.nil (tS 3 tI))]) <| sB (.get (aR 0 [i0,i0]) (aR 0 [i1])) <| sB (.lst 3 tI [[(aV 7)]]) <| sL (tP tI (tS 3 tI)) [(aR 0 [i1]),(aV 8)] <| sB (.cmp .gt i6 (aR 9 [i0]) (aI 0)) <| sI (aV 10) (sB (.get (aR 0 [i0,i1]) (aR 9 [i0])) <| sB (.cmp .lt i6 (aV 11) (aI 0)) <| sI (aV 12) (sU <| sR (tS 3 tI) [(.nil (tS 3 tI))]) <| sB (.get (aR 0 [i0,i1]) (aR 9 [i0])) <| sB (.cmp .ge i6 (aV 13) (aR 9 [i0])) <| sI (aV 14) (sU <| sR (tS 3 tI) [(.nil (tS 3 tI))]) <| sB (.get (aR 0 [i0,i1]) (aR 9 [i0])) <| sB (.get (aR 0 [i0,i0]) (aV 15)) <| sB (.lst 3 tI [[(aV 16)]]) <| sB (.app 8 (aR 9 [i1]) (aV 17)) <| sN (tP tI (tS 3 tI)) [(aV 15),(aV 18)]) <| sU <| sB (.len (aR 9 [i1])) <| sB (.bin .sub i6 (aV 11) (aI 1)) <| sL (tP tI (tS 3 tI)) [(aV 12),(.nil (tS 3 tI))] <| sB (.cmp .ge i6 (aR 13 [i0]) (aI 0)) <| sI (aV 14) (sB (.idx (aR 9 [i1]) (aR 13 [i0])) <| sB (.get (aR 9 [i1]) (aR 13 [i0])) <| sB (.lst 3 tI [[(aV 16)]]) <| sB (.app 8 (aR 13 [i1]) (aV 17)) <| sB (.bin .sub i6 (aR 13 [i0]) (aI 1)) <| sN (tP tI (tS 3 tI)) [(aV 19),(aV 18)]) <| sU <| sR (tS 3 tI) [(aR 13 [i1])]
noncomputable def fn15 (x : sg15.p.den) : Option sg15.r.den := st15.den [] [] sg15.r [⟨sg15.p, x⟩]
theorem spec15 : CallSpec Try.prog sg15 fn15 := spec (ss := []) (an := an15) (stm := st15) follows (Specs.nil) (by kernel_rfl) (by kernel_rfl) (fun _ => rfl)
theorem eq15 : fn15 = Pf.spec_PathTo := by kernel_rfl
-- laws.eqIntS
def sg18 : Sig := ⟨18,18,[.val i0 (tS 3 tI),.val i0 (tS 3 tI)],[.val i0 tB i1]⟩
def an18 : Ann := ⟨26,[(6,[0,1,2,3,4,5,6,7,8])],[],[(0,tI,[(0,(.c (.s none (aR 0 [i0])))),(1,(.c (.s none (aR 0 [i1])))),(5,(sW (aV 4)))],[])],[],[]⟩
def st18 : Stm := sB (.len (aR 0 [i0])) <| sB (.len (aR 0 [i1])) <| sB (.cmp .ne i6 (aV 1) (aV 2)) <| sI (aV 3) (sR tB [(.bool false)]) <| sL tI [(aI 0)] <| sB (.len (aR 0 [i0])) <| sB (.cmp .lt i6 (aV 4) (aV 5)) <| sI (aV 6) (sB (.get (aR 0 [i0]) (aV 4)) <| sB (.get (aR 0 [i1]) (aV 4)) <| sB (.cmp .ne i6 (aV 7) (aV 8)) <| sI (aV 9) (sU <| sR tB [(.bool false)]) <| sB (.bin .add i6 (aV 4) (aI 1)) <| sN tI [(aV 10)]) <| sU <| sR tB [(.bool true)]
noncomputable def fn18 (x : sg18.p.den) : Option sg18.r.den := st18.den [] [] sg18.r [⟨sg18.p, x⟩]
theorem spec18 : CallSpec Try.prog sg18 fn18 := spec (ss := []) (an := an18) (stm := st18) follows (Specs.nil) (by kernel_rfl) (by kernel_rfl) (fun _ => rfl)
theorem eq18 : fn18 = Pf.laws_eqIntS := by kernel_rfl
-- laws.markIntS
def sg21 : Sig := ⟨21,21,[.own i0 (tS 3 tI) i1,.val i0 tI],[.val i0 tI i1]⟩
def an21 : Ann := ⟨19,[],[],[(0,(tP tI (tP tI (tS 3 tI))),[(0,(.c (.h 0))),(1,(sW (aR 1 [i0]))),(5,(sW (aR 1 [i1,i0])))],[(.list 3 tI (aR 1 [i1,i1]) i0 none)])],[],[]⟩
def st21 : Stm := sL (tP tI (tP tI (tS 3 tI))) [(aR 0 [i1]),(aI 0),(aR 0 [i0])] <| sB (.len (aR 1 [i1,i1])) <| sB (.cmp .lt i6 (aR 1 [i1,i0]) (aV 2)) <| sI (aV 3) (sB (.idx (aR 1 [i1,i1]) (aR 1 [i1,i0])) <| sB (.get (aR 1 [i1,i1]) (aR 1 [i1,i0])) <| sB (.mk tI [(aR 1 [i0])]) <| sB (.set (aR 1 [i1,i1]) (aR 1 [i1,i0]) (aV 6)) <| sB (.bin .add i6 (aR 1 [i0]) (aI 1)) <| sB (.bin .add i6 (aR 1 [i1,i0]) (aI 1)) <| sN (tP tI (tP tI (tS 3 tI))) [(aV 8),(aV 9),(aV 7)]) <| sU <| sR (tP tI (tS 3 tI)) [(aR 1 [i0]),(aR 1 [i1,i1])]
noncomputable def fn21 (x : sg21.p.den) : Option sg21.r.den := st21.den [] [] sg21.r [⟨sg21.p, x⟩]
theorem spec21 : CallSpec Try.prog sg21 fn21 := spec (ss := []) (an := an21) (stm := st21) follows (Specs.nil) (by kernel_rfl) (by kernel_rfl) (fun _ => rfl)
theorem eq21 : fn21 = Pf.laws_markIntS := by kernel_rfl
-- laws.heldIntS
def sg22 : Sig := ⟨22,22,[.val i0 (tS 3 tI),.val i0 tI],[.val i0 tI i1]⟩
def an22 : Ann := ⟨21,[],[],[(0,(tP tI tI),[(0,(.c (.s none (aR 0 [i0])))),(1,(sW (aR 1 [i0]))),(5,(sW (aR 1 [i1])))],[])],[],[]⟩
def st22 : Stm := sL (tP tI tI) [(aR 0 [i1]),(aI 0)] <| sB (.len (aR 0 [i0])) <| sB (.cmp .lt i6 (aR 1 [i1]) (aV 2)) <| sI (aV 3) (sB (.get (aR 0 [i0]) (aR 1 [i1])) <| sB (.cmp .ne i6 (aV 4) (aR 1 [i0])) <| sI (aV 5) (sU <| sR tI [(aI (-1))]) <| sB (.bin .add i6 (aR 1 [i0]) (aI 1)) <| sB (.bin .add i6 (aR 1 [i1]) (aI 1)) <| sN (tP tI tI) [(aV 6),(aV 7)]) <| sU <| sR tI [(aR 1 [i0])]
noncomputable def fn22 (x : sg22.p.den) : Option sg22.r.den := st22.den [] [] sg22.r [⟨sg22.p, x⟩]
theorem spec22 : CallSpec Try.prog sg22 fn22 := spec (ss := []) (an := an22) (stm := st22) follows (Specs.nil) (by kernel_rfl) (by kernel_rfl) (fun _ => rfl)
theorem eq22 : fn22 = Pf.laws_heldIntS := by kernel_rfl
-- laws.toDevice
def sg24 : Sig := ⟨24,24,[.val i1 (tP tI (tP tI (tP tI tI)))],[.val i1 (tP tI (tP tI (tP tI tI))) i1]⟩
def an24 : Ann := ⟨17,[],[],[],[],[]⟩
def st24 : Stm := sR (tP tI (tP tI (tP tI tI))) [(aR 0 [i0]),(aR 0 [i1,i0]),(aR 0 [i1,i1,i0]),(aR 0 [i1,i1,i1])]
noncomputable def fn24 (x : sg24.p.den) : Option sg24.r.den := st24.den [] [] sg24.r [⟨sg24.p, x⟩]
theorem spec24 : CallSpec Try.prog sg24 fn24 := spec (ss := []) (an := an24) (stm := st24) follows (Specs.nil) (by kernel_rfl) (by kernel_rfl) (fun _ => rfl)
theorem eq24 : fn24 = Pf.laws_toDevice := by kernel_rfl
-- laws.toIntS
def sg25 : Sig := ⟨25,25,[.val i0 (tS 3 tI)],[.val i0 (tS 3 tI) i0]⟩
def an25 : Ann := ⟨22,[],[],[(0,(tP tI (tS 3 tI)),[(0,(.c (.s none (aV 0)))),(3,(.c (.h 0))),(4,(sW (aR 3 [i0])))],[(.list 3 tI (aR 3 [i1]) i0 none)])],[],[]⟩
def st25 : Stm := sB (.len (aV 0)) <| sB (.make 8 3 tI (aV 1)) <| sL (tP tI (tS 3 tI)) [(aI 0),(aV 2)] <| sB (.len (aV 0)) <| sB (.cmp .lt i6 (aR 3 [i0]) (aV 4)) <| sI (aV 5) (sB (.get (aV 0) (aR 3 [i0])) <| sB (.idx (aR 3 [i1]) (aR 3 [i0])) <| sB (.get (aR 3 [i1]) (aR 3 [i0])) <| sB (.mk tI [(aV 6)]) <| sB (.set (aR 3 [i1]) (aR 3 [i0]) (aV 9)) <| sB (.bin .add i6 (aR 3 [i0]) (aI 1)) <| sN (tP tI (tS 3 tI)) [(aV 11),(aV 10)]) <| sU <| sR (tS 3 tI) [(aR 3 [i1])]
noncomputable def fn25 (x : sg25.p.den) : Option sg25.r.den := st25.den [] [] sg25.r [⟨sg25.p, x⟩]
theorem spec25 : CallSpec Try.prog sg25 fn25 := spec (ss := []) (an := an25) (stm := st25) follows (Specs.nil) (by kernel_rfl) (by kernel_rfl) (fun _ => rfl)
theorem eq25 : fn25 = Pf.laws_toIntS := by kernel_rfl
-- laws.szIntS
def sg59 : Sig := ⟨59,59,[.val i0 (tS 3 tI),.val i0 tI],[.val i0 tI i1]⟩
def an59 : Ann := ⟨12,[],[],[],[],[]⟩
def st59 : Stm := sB (.len (aR 0 [i0])) <| sB (.bin .sub i6 (aR 0 [i1]) (aV 1)) <| sB (.cmp .lt i6 (aV 2) (aI 0)) <| sI (aV 3) (sR tI [(aI (-1))]) <| sR tI [(aV 2)]
noncomputable def fn59 (x : sg59.p.den) : Option sg59.r.den := st59.den [] [] sg59.r [⟨sg59.p, x⟩]
theorem spec59 : CallSpec Try.prog sg59 fn59 := spec (ss := []) (an := an59) (stm := st59) follows (Specs.nil) (by kernel_rfl) (by kernel_rfl) (fun _ => rfl)
theorem eq59 : fn59 = Pf.laws_szIntS := by kernel_rfl
-- impl.inRange
def sg60 : Sig := ⟨60,60,[.val i0 tI,.val i0 tI,.val i0 tI],[.val i0 tB i1]⟩
def an60 : Ann := ⟨15,[],[],[],[],[]⟩
def st60 : Stm := sB (.cmp .ge i6 (aR 0 [i0]) (aR 0 [i1,i0])) <| sI (aV 1) (sB (.cmp .le i6 (aR 0 [i0]) (aR 0 [i1,i1])) <| sR tB [(aV 2)]) <| sR tB [(.bool false)]
noncomputable def fn60 (x : sg60.p.den) : Option sg60.r.den := st60.den [] [] sg60.r [⟨sg60.p, x⟩]
theorem spec60 : CallSpec Try.prog sg60 fn60 := spec (ss := []) (an := an60) (stm := st60) follows (Specs.nil) (by kernel_rfl) (by kernel_rfl) (fun _ => rfl)
theorem eq60 : fn60 = Pf.impl_inRange := by kernel_rfl
-- spec.BlockTile
def sg63 : Sig := ⟨63,63,[.val i0 tI],[.val i0 tI i1]⟩
def an63 : Ann := ⟨11,[],[],[],[],[]⟩
def st63 : Stm := sB (.cmp .eq i6 (aV 0) (aI 0)) <| sI (aV 1) (sI (aV 1) (sR tI [(aI 0)]) <| sB (.cmp .eq i6 (aV 0) (aI 2)) <| sI (aV 2) (sR tI [(aI 2)]) <| sB (.cmp .eq i6 (aV 0) (aI 3)) <| sI (aV 3) (sR tI [(aI 1)]) <| sR tI [(aI (-1))]) <| sB (.cmp .eq i6 (aV 0) (aI 1)) <| sI (aV 2) (sR tI [(aI 0)]) <| sB (.cmp .eq i6 (aV 0) (aI 2)) <| sI (aV 3) (sR tI [(aI 2)]) <| sB (.cmp .eq i6 (aV 0) (aI 3)) <| sI (aV 4) (sR tI [(aI 1)]) <| sR tI [(aI (-1))]
noncomputable def fn63 (x : sg63.p.den) : Option sg63.r.den := st63.den [] [] sg63.r [⟨sg63.p, x⟩]
theorem spec63 : CallSpec Try.prog sg63 fn63 := spec (ss := []) (an := an63) (stm := st63) follows (Specs.nil) (by kernel_rfl) (by kernel_rfl) (fun _ => rfl)
theorem eq63 : fn63 = Pf.spec_BlockTile := by kernel_rfl
-- impl.BlockTile
def sg65 : Sig := ⟨65,65,[.val i0 tI],[.val i0 tI i1]⟩
def an65 : Ann := ⟨11,[],[],[],[],[]⟩
def st65 : Stm := sB (.cmp .eq i6 (aV 0) (aI 0)) <| sI (aV 1) (sI (aV 1) (sR tI [(aI 0)]) <| sB (.cmp .eq i6 (aV 0) (aI 2)) <| sI (aV 2) (sR tI [(aI 2)]) <| sB (.cmp .eq i6 (aV 0) (aI 3)) <| sI (aV 3) (sR tI [(aI 1)]) <| sR tI [(aI (-1))]) <| sB (.cmp .eq i6 (aV 0) (aI 1)) <| sI (aV 2) (sR tI [(aI 0)]) <| sB (.cmp .eq i6 (aV 0) (aI 2)) <| sI (aV 3) (sR tI [(aI 2)]) <| sB (.cmp .eq i6 (aV 0) (aI 3)) <| sI (aV 4) (sR tI [(aI 1)]) <| sR tI [(aI (-1))]
noncomputable def fn65 (x : sg65.p.den) : Option sg65.r.den := st65.den [] [] sg65.r [⟨sg65.p, x⟩]
theorem spec65 : CallSpec Try.prog sg65 fn65 := spec (ss := []) (an := an65) (stm := st65) follows (Specs.nil) (by kernel_rfl) (by kernel_rfl) (fun _ => rfl)
theorem eq65 : fn65 = Pf.impl_BlockTile := by kernel_rfl
-- impl.hasInt
def sg66 : Sig := ⟨66,66,[.val i0 (tS 3 tI),.val i0 tI],[.val i0 tB i1]⟩
def an66 : Ann := ⟨17,[],[],[(0,tI,[(1,(sW (aR 0 [i1]))),(7,(.c (.s none (aR 0 [i0])))),(8,(sW (aV 1))),(9,(sW (aV 2)))],[])],[],[]⟩
def st66 : Stm := sB (.len (aR 0 [i0])) <| sL tI [(aI 0)] <| sB (.cmp .lt i6 (aV 2) (aV 1)) <| sI (aV 3) (sB (.get (aR 0 [i0]) (aV 2)) <| sB (.cmp .eq i6 (aV 4) (aR 0 [i1])) <| sI (aV 5) (sU <| sR tB [(.bool true)]) <| sB (.bin .add i6 (aV 2) (aI 1)) <| sN tI [(aV 6)]) <| sU <| sR tB [(.bool false)]
noncomputable def fn66 (x : sg66.p.den) : Option sg66.r.den := st66.den [] [] sg66.r [⟨sg66.p, x⟩]
theorem spec66 : CallSpec Try.prog sg66 fn66 := spec (ss := []) (an := an66) (stm := st66) follows (Specs.nil) (by kernel_rfl) (by kernel_rfl) (fun _ => rfl)
theorem eq66 : fn66 = Pf.impl_hasInt := by kernel_rfl
-- spec.l01In
def sg67 : Sig := ⟨67,67,[.val i0 tI,.val i0 tI,.val i0 tI],[.val i0 tB i1]⟩
def an67 : Ann := ⟨15,[],[],[],[],[]⟩
def st67 : Stm := sB (.cmp .ge i6 (aR 0 [i0]) (aR 0 [i1,i0])) <| sI (aV 1) (sB (.cmp .le i6 (aR 0 [i0]) (aR 0 [i1,i1])) <| sR tB [(aV 2)]) <| sR tB [(.bool false)]
noncomputable def fn67 (x : sg67.p.den) : Option sg67.r.den := st67.den [] [] sg67.r [⟨sg67.p, x⟩]
theorem spec67 : CallSpec Try.prog sg67 fn67 := spec (ss := []) (an := an67) (stm := st67) follows (Specs.nil) (by kernel_rfl) (by kernel_rfl) (fun _ => rfl)
theorem eq67 : fn67 = Pf.spec_l01In := by kernel_rfl
-- spec.l13Has
def sg68 : Sig := ⟨68,68,[.val i0 (tS 3 tI),.val i0 tI],[.val i0 tB i1]⟩
def an68 : Ann := ⟨18,[],[],[(0,tI,[(0,(.c (.s none (aR 0 [i0])))),(1,(sW (aR 0 [i1]))),(5,(sW (aV 1)))],[])],[],[]⟩
def st68 : Stm := sL tI [(aI 0)] <| sB (.len (aR 0 [i0])) <| sB (.cmp .lt i6 (aV 1) (aV 2)) <| sI (aV 3) (sB (.get (aR 0 [i0]) (aV 1)) <| sB (.cmp .eq i6 (aV 4) (aR 0 [i1])) <| sI (aV 5) (sU <| sR tB [(.bool true)]) <| sB (.bin .add i6 (aV 1) (aI 1)) <| sN tI [(aV 6)]) <| sU <| sR tB [(.bool false)]
noncomputable def fn68 (x : sg68.p.den) : Option sg68.r.den := st68.den [] [] sg68.r [⟨sg68.p, x⟩]
theorem spec68 : CallSpec Try.prog sg68 fn68 := spec (ss := []) (an := an68) (stm := st68) follows (Specs.nil) (by kernel_rfl) (by kernel_rfl) (fun _ => rfl)
theorem eq68 : fn68 = Pf.spec_l13Has := by kernel_rfl
-- laws.szPinS
def sg72 : Sig := ⟨72,72,[.val i0 (tS 51 (tP tI tI)),.val i0 tI],[.val i0 tI i1]⟩
def an72 : Ann := ⟨12,[],[],[],[],[]⟩
def st72 : Stm := sB (.len (aR 0 [i0])) <| sB (.bin .sub i6 (aR 0 [i1]) (aV 1)) <| sB (.cmp .lt i6 (aV 2) (aI 0)) <| sI (aV 3) (sR tI [(aI (-1))]) <| sR tI [(aV 2)]
noncomputable def fn72 (x : sg72.p.den) : Option sg72.r.den := st72.den [] [] sg72.r [⟨sg72.p, x⟩]
theorem spec72 : CallSpec Try.prog sg72 fn72 := spec (ss := []) (an := an72) (stm := st72) follows (Specs.nil) (by kernel_rfl) (by kernel_rfl) (fun _ => rfl)
theorem eq72 : fn72 = Pf.laws_szPinS := by kernel_rfl
-- laws.toPin
def sg73 : Sig := ⟨73,73,[.val i1 (tP tI tI)],[.val i1 (tP tI tI) i1]⟩
def an73 : Ann := ⟨11,[],[],[],[],[]⟩
def st73 : Stm := sR (tP tI tI) [(aR 0 [i0]),(aR 0 [i1])]
noncomputable def fn73 (x : sg73.p.den) : Option sg73.r.den := st73.den [] [] sg73.r [⟨sg73.p, x⟩]
theorem spec73 : CallSpec Try.prog sg73 fn73 := spec (ss := []) (an := an73) (stm := st73) follows (Specs.nil) (by kernel_rfl) (by kernel_rfl) (fun _ => rfl)
theorem eq73 : fn73 = Pf.laws_toPin := by kernel_rfl
-- impl.pinsOf
def sg75 : Sig := ⟨75,75,[.val i1 (tP tI (tP (tP tI tI) (tS 57 (tP tI tI))))],[.val i0 (tS 57 (tP tI tI)) i1]⟩
def an75 : Ann := ⟨9,[],[],[],[],[]⟩
def st75 : Stm := sB (.lst 57 (tP tI tI) [[(aR 0 [i1,i0,i0]),(aR 0 [i1,i0,i1])]]) <| sB (.app 16 (aV 1) (aR 0 [i1,i1])) <| sR (tS 57 (tP tI tI)) [(aV 2)]
noncomputable def fn75 (x : sg75.p.den) : Option sg75.r.den := st75.den [] [] sg75.r [⟨sg75.p, x⟩]
theorem spec75 : CallSpec Try.prog sg75 fn75 := spec (ss := []) (an := an75) (stm := st75) follows (Specs.nil) (by kernel_rfl) (by kernel_rfl) (fun _ => rfl)
theorem eq75 : fn75 = Pf.impl_pinsOf := by kernel_rfl
-- laws.eqPin
def sg77 : Sig := ⟨77,77,[.val i1 (tP tI tI),.val i1 (tP tI tI)],[.val i0 tB i1]⟩
def an77 : Ann := ⟨15,[],[],[],[],[]⟩
def st77 : Stm := sB (.cmp .ne i6 (aR 0 [i0,i0]) (aR 0 [i1,i0])) <| sI (aV 1) (sR tB [(.bool false)]) <| sB (.cmp .ne i6 (aR 0 [i0,i1]) (aR 0 [i1,i1])) <| sI (aV 2) (sR tB [(.bool false)]) <| sR tB [(.bool true)]
noncomputable def fn77 (x : sg77.p.den) : Option sg77.r.den := st77.den [] [] sg77.r [⟨sg77.p, x⟩]
theorem spec77 : CallSpec Try.prog sg77 fn77 := spec (ss := []) (an := an77) (stm := st77) follows (Specs.nil) (by kernel_rfl) (by kernel_rfl) (fun _ => rfl)
theorem eq77 : fn77 = Pf.laws_eqPin := by kernel_rfl
-- impl.copyInts
def sg78 : Sig := ⟨78,78,[.val i0 (tS 3 tI)],[.val i0 (tS 3 tI) i0]⟩
def an78 : Ann := ⟨6,[],[],[],[],[]⟩
def st78 : Stm := sB (.app 8 (.nil (tS 3 tI)) (aV 0)) <| sR (tS 3 tI) [(aV 1)]
noncomputable def fn78 (x : sg78.p.den) : Option sg78.r.den := st78.den [] [] sg78.r [⟨sg78.p, x⟩]
theorem spec78 : CallSpec Try.prog sg78 fn78 := spec (ss := []) (an := an78) (stm := st78) follows (Specs.nil) (by kernel_rfl) (by kernel_rfl) (fun _ => rfl)
theorem eq78 : fn78 = Pf.impl_copyInts := by kernel_rfl
-- impl.tileKind
def sg85 : Sig := ⟨85,85,[.val i1 (tP tI (tP tI (tP tI tI))),.val i0 tI],[.val i0 tI i1]⟩
def an85 : Ann := ⟨41,[(1,[0,1,2,3,4,5,6,7,8,9])],[],[],[],[]⟩
def st85 : Stm := sB (.rem i6 (aR 0 [i1]) (aR 0 [i0,i0])) <| sB (.div i6 (aR 0 [i1]) (aR 0 [i0,i0])) <| sB (.cmp .eq i6 (aV 1) (aI 0)) <| sI (aV 3) (sR tI [(aI 0)]) <| sB (.bin .sub i6 (aR 0 [i0,i0]) (aI 1)) <| sB (.cmp .eq i6 (aV 1) (aV 4)) <| sI (aV 5) (sR tI [(aI 0)]) <| sB (.cmp .eq i6 (aV 2) (aI 0)) <| sI (aV 6) (sR tI [(aI 0)]) <| sB (.bin .sub i6 (aR 0 [i0,i1,i0]) (aI 1)) <| sB (.cmp .eq i6 (aV 2) (aV 7)) <| sI (aV 8) (sR tI [(aI 0)]) <| sB (.cmp .eq i6 (aV 1) (aR 0 [i0,i1,i1,i1])) <| sI (aV 9) (sR tI [(aI 2)]) <| sR tI [(aI 1)]
noncomputable def fn85 (x : sg85.p.den) : Option sg85.r.den := st85.den [] [] sg85.r [⟨sg85.p, x⟩]
theorem spec85 : CallSpec Try.prog sg85 fn85 := spec (ss := []) (an := an85) (stm := st85) follows (Specs.nil) (by kernel_rfl) (by kernel_rfl) (fun _ => rfl)
theorem eq85 : fn85 = Pf.impl_tileKind := by kernel_rfl
-- laws.szRoute
def sg14 : Sig := ⟨14,14,[.val i1 (tP (tS 3 tI) (tS 3 tI)),.val i0 tI],[.val i0 tI i1]⟩
def an14 : Ann := ⟨18,[],[],[],[],[]⟩
def st14 : Stm := sB (.call 59 [(aR 0 [i0,i0]),(aR 0 [i1])]) <| sB (.cmp .lt i6 (aV 1) (aI 0)) <| sI (aV 2) (sR tI [(aI (-1))]) <| sB (.call 59 [(aR 0 [i0,i1]),(aV 1)]) <| sB (.cmp .lt i6 (aV 3) (aI 0)) <| sI (aV 4) (sR tI [(aI (-1))]) <| sR tI [(aV 3)]
noncomputable def fn14 (x : sg14.p.den) : Option sg14.r.den := st14.den [⟨sg59.key, sg59.p, sg59.r, fn59⟩] [] sg14.r [⟨sg14.p, x⟩]
theorem spec14 : CallSpec Try.prog sg14 fn14 := spec (ss := [sg59]) (an := an14) (stm := st14) follows (Specs.cons spec59 (Specs.nil) (by kernel_rfl)) (by kernel_rfl) (by kernel_rfl) (fun _ => rfl)
theorem eq14 : fn14 = Pf.laws_szRoute := by kernel_rfl
-- laws.toRoute
def sg16 : Sig := ⟨16,16,[.val i1 (tP (tS 3 tI) (tS 3 tI))],[.val i1 (tP (tS 3 tI) (tS 3 tI)) i0]⟩
def an16 : Ann := ⟨13,[],[],[],[],[]⟩
def st16 : Stm := sB (.call 25 [(aR 0 [i0])]) <| sB (.call 25 [(aR 0 [i1])]) <| sR (tP (tS 3 tI) (tS 3 tI)) [(aV 1),(aV 2)]
noncomputable def fn16 (x : sg16.p.den) : Option sg16.r.den := st16.den [⟨sg25.key, sg25.p, sg25.r, fn25⟩] [] sg16.r [⟨sg16.p, x⟩]
theorem spec16 : CallSpec Try.prog sg16 fn16 := spec (ss := [sg25]) (an := an16) (stm := st16) follows (Specs.cons spec25 (Specs.nil) (by kernel_rfl)) (by kernel_rfl) (by kernel_rfl) (fun _ => rfl)
theorem eq16 : fn16 = Pf.laws_toRoute := by kernel_rfl
-- impl.PathTo
def sg17 : Sig := ⟨17,17,[.val i1 (tP (tS 3 tI) (tS 3 tI)),.val i0 tI],[.val i0 (tS 3 tI) i1]⟩
def an17 : Ann := ⟨68,[],[],[(0,(tP tI (tS 3 tI)),[(1,(sW (aR 8 [i0]))),(2,(.c (.h 0))),(5,(.c (.h 1)))],[(.box 27 [(.s none (aR 0 [i0,i0])),(.s none (aR 0 [i0,i1]))]),(.list 3 tI (aR 8 [i1]) i1 none)]),(2,(tP tI (tS 3 tI)),[(5,(.c (.h 1))),(6,(.c (.h 2))),(7,(sW (aR 14 [i0])))],[.dead,(.list 3 tI (aR 8 [i1]) i1 none),(.list 3 tI (aR 14 [i1]) i1 none)])],[],[]⟩
def st17 : Stm := sB (.len (aR 0 [i0,i0])) <| sB (.len (aR 0 [i0,i1])) <| sB (.cmp .ne i6 (aV 1) (aV 2)) <| sI (aV 3) (sR (tS 3 tI) [(.nil (tS 3 tI))]) <| sB (.len (aR 0 [i0,i0])) <| sB (.bin .sub i6 (aV 4) (aI 1)) <| sB (.call 60 [(aR 0 [i1]),(aI 0),(aV 5)]) <| sB (.not (aV 6)) <| sI (aV 7) (sR (tS 3 tI) [(.nil (tS 3 tI))]) <| sL (tP tI (tS 3 tI)) [(aR 0 [i1]),(.nil (tS 3 tI))] <| sB (.cmp .gt i6 (aR 8 [i0]) (aI 0)) <| sI (aV 9) (sB (.get (aR 0 [i0,i0]) (aR 8 [i0])) <| sB (.lst 3 tI [[(aV 10)]]) <| sB (.app 8 (aR 8 [i1]) (aV 11)) <| sB (.get (aR 0 [i0,i1]) (aR 8 [i0])) <| sB (.bin .sub i6 (aR 8 [i0]) (aI 1)) <| sB (.call 60 [(aV 13),(aI 0),(aV 14)]) <| sB (.not (aV 15)) <| sI (aV 16) (sU <| sR (tS 3 tI) [(.nil (tS 3 tI))]) <| sB (.get (aR 0 [i0,i1]) (aR 8 [i0])) <| sN (tP tI (tS 3 tI)) [(aV 17),(aV 12)]) <| sU <| sB (.get (aR 0 [i0,i0]) (aI 0)) <| sB (.lst 3 tI [[(aV 10)]]) <| sB (.len (aR 8 [i1])) <| sB (.bin .sub i6 (aV 12) (aI 1)) <| sL (tP tI (tS 3 tI)) [(aV 13),(aV 11)] <| sB (.cmp .ge i6 (aR 14 [i0]) (aI 0)) <| sI (aV 15) (sB (.idx (aR 8 [i1]) (aR 14 [i0])) <| sB (.get (aR 8 [i1]) (aR 14 [i0])) <| sB (.lst 3 tI [[(aV 17)]]) <| sB (.app 8 (aR 14 [i1]) (aV 18)) <| sB (.bin .sub i6 (aR 14 [i0]) (aI 1)) <| sN (tP tI (tS 3 tI)) [(aV 20),(aV 19)]) <| sU <| sR (tS 3 tI) [(aR 14 [i1])]
noncomputable def fn17 (x : sg17.p.den) : Option sg17.r.den := st17.den [⟨sg60.key, sg60.p, sg60.r, fn60⟩] [] sg17.r [⟨sg17.p, x⟩]
theorem spec17 : CallSpec Try.prog sg17 fn17 := spec (ss := [sg60]) (an := an17) (stm := st17) follows (Specs.cons spec60 (Specs.nil) (by kernel_rfl)) (by kernel_rfl) (by kernel_rfl) (fun _ => rfl)
theorem eq17 : fn17 = Pf.impl_PathTo := by kernel_rfl
-- laws.eqRoute
def sg19 : Sig := ⟨19,19,[.val i1 (tP (tS 3 tI) (tS 3 tI)),.val i1 (tP (tS 3 tI) (tS 3 tI))],[.val i0 tB i1]⟩
def an19 : Ann := ⟨17,[],[],[],[],[]⟩
def st19 : Stm := sB (.call 18 [(aR 0 [i0,i0]),(aR 0 [i1,i0])]) <| sB (.not (aV 1)) <| sI (aV 2) (sR tB [(.bool false)]) <| sB (.call 18 [(aR 0 [i0,i1]),(aR 0 [i1,i1])]) <| sB (.not (aV 3)) <| sI (aV 4) (sR tB [(.bool false)]) <| sR tB [(.bool true)]
noncomputable def fn19 (x : sg19.p.den) : Option sg19.r.den := st19.den [⟨sg18.key, sg18.p, sg18.r, fn18⟩] [] sg19.r [⟨sg19.p, x⟩]
theorem spec19 : CallSpec Try.prog sg19 fn19 := spec (ss := [sg18]) (an := an19) (stm := st19) follows (Specs.cons spec18 (Specs.nil) (by kernel_rfl)) (by kernel_rfl) (by kernel_rfl) (fun _ => rfl)
theorem eq19 : fn19 = Pf.laws_eqRoute := by kernel_rfl
-- laws.markRoute
def sg20 : Sig := ⟨20,20,[.own i1 (tP (tS 3 tI) (tS 3 tI)) i1,.val i0 tI],[.val i0 tI i1]⟩
def an20 : Ann := ⟨14,[],[],[],[],[]⟩
def st20 : Stm := sB (.call 21 [(aR 0 [i0,i0]),(aR 0 [i1])]) <| sB (.call 21 [(aR 0 [i0,i1]),(aR 1 [i0])]) <| sR (tP tI (tP (tS 3 tI) (tS 3 tI))) [(aR 2 [i0]),(aR 1 [i1]),(aR 2 [i1])]
noncomputable def fn20 (x : sg20.p.den) : Option sg20.r.den := st20.den [⟨sg21.key, sg21.p, sg21.r, fn21⟩] [] sg20.r [⟨sg20.p, x⟩]
theorem spec20 : CallSpec Try.prog sg20 fn20 := spec (ss := [sg21]) (an := an20) (stm := st20) follows (Specs.cons spec21 (Specs.nil) (by kernel_rfl)) (by kernel_rfl) (by kernel_rfl) (fun _ => rfl)
theorem eq20 : fn20 = Pf.laws_markRoute := by kernel_rfl
-- laws.szConn
def sg34 : Sig := ⟨34,34,[.val i1 (tP tI (tP (tP tI tI) (tS 51 (tP tI tI)))),.val i0 tI],[.val i0 tI i1]⟩
def an34 : Ann := ⟨12,[],[],[],[],[]⟩
def st34 : Stm := sB (.call 72 [(aR 0 [i0,i1,i1]),(aR 0 [i1])]) <| sB (.cmp .lt i6 (aV 1) (aI 0)) <| sI (aV 2) (sR tI [(aI (-1))]) <| sR tI [(aV 1)]
noncomputable def fn34 (x : sg34.p.den) : Option sg34.r.den := st34.den [⟨sg72.key, sg72.p, sg72.r, fn72⟩] [] sg34.r [⟨sg34.p, x⟩]
theorem spec34 : CallSpec Try.prog sg34 fn34 := spec (ss := [sg72]) (an := an34) (stm := st34) follows (Specs.cons spec72 (Specs.nil) (by kernel_rfl)) (by kernel_rfl) (by kernel_rfl) (fun _ => rfl)
theorem eq34 : fn34 = Pf.laws_szConn := by kernel_rfl
-- laws.eqPinS
def sg51 : Sig := ⟨51,51,[.val i0 (tS 57 (tP tI tI)),.val i0 (tS 57 (tP tI tI))],[.val i0 tB i1]⟩
def an51 : Ann := ⟨27,[(6,[0,1,2,3,4,5,6,7,8,9])],[],[(0,tI,[(0,(.c (.s none (aR 0 [i0])))),(1,(.c (.s none (aR 0 [i1])))),(5,(sW (aV 4)))],[])],[],[]⟩
def st51 : Stm := sB (.len (aR 0 [i0])) <| sB (.len (aR 0 [i1])) <| sB (.cmp .ne i6 (aV 1) (aV 2)) <| sI (aV 3) (sR tB [(.bool false)]) <| sL tI [(aI 0)] <| sB (.len (aR 0 [i0])) <| sB (.cmp .lt i6 (aV 4) (aV 5)) <| sI (aV 6) (sB (.get (aR 0 [i0]) (aV 4)) <| sB (.get (aR 0 [i1]) (aV 4)) <| sB (.call 77 [(aR 7 [i0]),(aR 7 [i1]),(aR 8 [i0]),(aR 8 [i1])]) <| sB (.not (aV 9)) <| sI (aV 10) (sU <| sR tB [(.bool false)]) <| sB (.bin .add i6 (aV 4) (aI 1)) <| sN tI [(aV 11)]) <| sU <| sR tB [(.bool true)]
noncomputable def fn51 (x : sg51.p.den) : Option sg51.r.den := st51.den [⟨sg77.key, sg77.p, sg77.r, fn77⟩] [] sg51.r [⟨sg51.p, x⟩]
theorem spec51 : CallSpec Try.prog sg51 fn51 := spec (ss := [sg77]) (an := an51) (stm := st51) follows (Specs.cons spec77 (Specs.nil) (by kernel_rfl)) (by kernel_rfl) (by kernel_rfl) (fun _ => rfl)
theorem eq51 : fn51 = Pf.laws_eqPinS := by kernel_rfl
-- spec.DeviceOk
def sg61 : Sig := ⟨61,61,[.val i1 (tP tI (tP tI (tP tI tI)))],[.val i0 tB i1]⟩
def an61 : Ann := ⟨29,[],[],[],[],[]⟩
def st61 : Stm := sB (.call 67 [(aR 0 [i0]),(aI 3),(aI 6)]) <| sI (aV 1) (sB (.call 67 [(aR 0 [i1,i0]),(aI 3),(aI 6)]) <| sI (aV 2) (sB (.call 67 [(aR 0 [i1,i1,i0]),(aI 1),(aI 4)]) <| sI (aV 3) (sB (.cmp .eq i6 (aR 0 [i1,i1,i1]) (aI (-1))) <| sI (aV 4) (sR tB [(.bool true)]) <| sB (.bin .sub i6 (aR 0 [i0]) (aI 2)) <| sB (.call 67 [(aR 0 [i1,i1,i1]),(aI 1),(aV 5)]) <| sR tB [(aV 6)]) <| sR tB [(.bool false)]) <| sR tB [(.bool false)]) <| sR tB [(.bool false)]
noncomputable def fn61 (x : sg61.p.den) : Option sg61.r.den := st61.den [⟨sg67.key, sg67.p, sg67.r, fn67⟩] [] sg61.r [⟨sg61.p, x⟩]
theorem spec61 : CallSpec Try.prog sg61 fn61 := spec (ss := [sg67]) (an := an61) (stm := st61) follows (Specs.cons spec67 (Specs.nil) (by kernel_rfl)) (by kernel_rfl) (by kernel_rfl) (fun _ => rfl)
theorem eq61 : fn61 = Pf.spec_DeviceOk := by kernel_rfl
-- impl.DeviceOk
def sg64 : Sig := ⟨64,64,[.val i1 (tP tI (tP tI (tP tI tI)))],[.val i0 tB i1]⟩
def an64 : Ann := ⟨29,[],[],[],[],[]⟩
def st64 : Stm := sB (.call 60 [(aR 0 [i0]),(aI 3),(aI 6)]) <| sI (aV 1) (sB (.call 60 [(aR 0 [i1,i0]),(aI 3),(aI 6)]) <| sI (aV 2) (sB (.call 60 [(aR 0 [i1,i1,i0]),(aI 1),(aI 4)]) <| sI (aV 3) (sB (.cmp .eq i6 (aR 0 [i1,i1,i1]) (aI (-1))) <| sI (aV 4) (sR tB [(.bool true)]) <| sB (.bin .sub i6 (aR 0 [i0]) (aI 2)) <| sB (.call 60 [(aR 0 [i1,i1,i1]),(aI 1),(aV 5)]) <| sR tB [(aV 6)]) <| sR tB [(.bool false)]) <| sR tB [(.bool false)]) <| sR tB [(.bool false)]
noncomputable def fn64 (x : sg64.p.den) : Option sg64.r.den := st64.den [⟨sg60.key, sg60.p, sg60.r, fn60⟩] [] sg64.r [⟨sg64.p, x⟩]
theorem spec64 : CallSpec Try.prog sg64 fn64 := spec (ss := [sg60]) (an := an64) (stm := st64) follows (Specs.cons spec60 (Specs.nil) (by kernel_rfl)) (by kernel_rfl) (by kernel_rfl) (fun _ => rfl)
theorem eq64 : fn64 = Pf.impl_DeviceOk := by kernel_rfl
-- laws.toPinS
def sg74 : Sig := ⟨74,74,[.val i0 (tS 51 (tP tI tI))],[.val i0 (tS 57 (tP tI tI)) i0]⟩
def an74 : Ann := ⟨23,[],[],[(0,(tP tI (tS 57 (tP tI tI))),[(0,(.c (.s none (aV 0)))),(3,(.c (.h 0))),(4,(sW (aR 3 [i0])))],[(.list 57 (tP tI tI) (aR 3 [i1]) i0 none)])],[],[]⟩
def st74 : Stm := sB (.len (aV 0)) <| sB (.make 16 57 (tP tI tI) (aV 1)) <| sL (tP tI (tS 57 (tP tI tI))) [(aI 0),(aV 2)] <| sB (.len (aV 0)) <| sB (.cmp .lt i6 (aR 3 [i0]) (aV 4)) <| sI (aV 5) (sB (.get (aV 0) (aR 3 [i0])) <| sB (.call 73 [(aR 6 [i0]),(aR 6 [i1])]) <| sB (.idx (aR 3 [i1]) (aR 3 [i0])) <| sB (.get (aR 3 [i1]) (aR 3 [i0])) <| sB (.mk (tP tI tI) [(aR 7 [i0]),(aR 7 [i1])]) <| sB (.set (aR 3 [i1]) (aR 3 [i0]) (aV 10)) <| sB (.bin .add i6 (aR 3 [i0]) (aI 1)) <| sN (tP tI (tS 57 (tP tI tI))) [(aV 12),(aV 11)]) <| sU <| sR (tS 57 (tP tI tI)) [(aR 3 [i1])]
noncomputable def fn74 (x : sg74.p.den) : Option sg74.r.den := st74.den [⟨sg73.key, sg73.p, sg73.r, fn73⟩] [] sg74.r [⟨sg74.p, x⟩]
theorem spec74 : CallSpec Try.prog sg74 fn74 := spec (ss := [sg73]) (an := an74) (stm := st74) follows (Specs.cons spec73 (Specs.nil) (by kernel_rfl)) (by kernel_rfl) (by kernel_rfl) (fun _ => rfl)
theorem eq74 : fn74 = Pf.laws_toPinS := by kernel_rfl
-- impl.tryMove
def sg79 : Sig := ⟨79,79,[.val i0 (tS 3 tI),.val i0 tI,.val i0 tI],[.val i0 (tS 3 tI) i0]⟩
def an79 : Ann := ⟨35,[],[],[(0,(tP tI (tS 3 tI)),[(1,(sW (aR 0 [i1,i0]))),(2,(sW (aR 0 [i1,i1]))),(7,(.c (.h 0))),(12,(.c (.h 0))),(13,(sW (aV 2))),(14,(sW (aR 3 [i0])))],[(.list 3 tI (aR 3 [i1]) i0 none)])],[],[]⟩
def st79 : Stm := sB (.call 78 [(aR 0 [i0])]) <| sB (.len (aV 1)) <| sL (tP tI (tS 3 tI)) [(aI 0),(aV 1)] <| sB (.cmp .lt i6 (aR 3 [i0]) (aV 2)) <| sI (aV 4) (sB (.idx (aR 3 [i1]) (aR 3 [i0])) <| sB (.get (aR 3 [i1]) (aR 3 [i0])) <| sB (.cmp .eq i6 (aV 6) (aR 0 [i1,i1])) <| sI (aV 7) (sB (.idx (aR 3 [i1]) (aR 0 [i1,i0])) <| sB (.get (aR 3 [i1]) (aR 0 [i1,i0])) <| sB (.idx (aR 3 [i1]) (aR 3 [i0])) <| sB (.get (aR 3 [i1]) (aR 3 [i0])) <| sB (.mk tI [(aV 9)]) <| sB (.set (aR 3 [i1]) (aR 3 [i0]) (aV 12)) <| sB (.bin .add i6 (aR 3 [i0]) (aI 1)) <| sN (tP tI (tS 3 tI)) [(aV 14),(aV 13)]) <| sB (.bin .add i6 (aR 3 [i0]) (aI 1)) <| sN (tP tI (tS 3 tI)) [(aV 8),(aR 3 [i1])]) <| sU <| sB (.idx (aR 3 [i1]) (aR 0 [i1,i0])) <| sB (.get (aR 3 [i1]) (aR 0 [i1,i0])) <| sB (.mk tI [(aR 0 [i1,i1])]) <| sB (.set (aR 3 [i1]) (aR 0 [i1,i0]) (aV 7)) <| sR (tS 3 tI) [(aV 8)]
noncomputable def fn79 (x : sg79.p.den) : Option sg79.r.den := st79.den [⟨sg78.key, sg78.p, sg78.r, fn78⟩] [] sg79.r [⟨sg79.p, x⟩]
theorem spec79 : CallSpec Try.prog sg79 fn79 := spec (ss := [sg78]) (an := an79) (stm := st79) follows (Specs.cons spec78 (Specs.nil) (by kernel_rfl)) (by kernel_rfl) (by kernel_rfl) (fun _ => rfl)
theorem eq79 : fn79 = Pf.impl_tryMove := by kernel_rfl
-- laws.FnExactPathTo
def sg3 : Sig := ⟨3,3,[.val i1 (tP (tS 3 tI) (tS 3 tI)),.val i0 tI],[.val i0 tB i1]⟩
def an3 : Ann := ⟨74,[(10,[0,1,2,3,4])],[],[],[],[]⟩
def st3 : Stm := sB (.call 14 [(aR 0 [i0,i0]),(aR 0 [i0,i1]),(aI 1048576)]) <| sB (.cmp .lt i6 (aV 1) (aI 0)) <| sI (aV 2) (sR tB [(.bool true)]) <| sB (.call 16 [(aR 0 [i0,i0]),(aR 0 [i0,i1])]) <| sB (.call 15 [(aR 3 [i0]),(aR 3 [i1]),(aR 0 [i1])]) <| sB (.call 16 [(aR 0 [i0,i0]),(aR 0 [i0,i1])]) <| sB (.call 17 [(aR 5 [i0]),(aR 5 [i1]),(aR 0 [i1])]) <| sB (.call 18 [(aV 6),(aV 4)]) <| sB (.not (aV 7)) <| sI (aV 8) (sR tB [(.bool false)]) <| sB (.call 16 [(aR 0 [i0,i0]),(aR 0 [i0,i1])]) <| sB (.call 19 [(aR 5 [i0]),(aR 5 [i1]),(aR 9 [i0]),(aR 9 [i1])]) <| sB (.not (aV 10)) <| sI (aV 11) (sR tB [(.bool false)]) <| sB (.call 20 [(aR 5 [i0]),(aR 5 [i1]),(aI 1)]) <| sB (.cmp .lt i6 (aR 12 [i0]) (aI 0)) <| sI (aV 13) (sR tB [(.bool false)]) <| sB (.call 18 [(aV 6),(aV 4)]) <| sB (.not (aV 14)) <| sI (aV 15) (sR tB [(.bool false)]) <| sB (.call 21 [(aV 6),(aI 1)]) <| sB (.call 22 [(aR 16 [i1]),(aI 1)]) <| sB (.cmp .lt i6 (aV 17) (aI 0)) <| sI (aV 18) (sR tB [(.bool false)]) <| sB (.cmp .ne i6 (aV 17) (aR 16 [i0])) <| sI (aV 19) (sR tB [(.bool false)]) <| sB (.call 16 [(aR 0 [i0,i0]),(aR 0 [i0,i1])]) <| sB (.call 17 [(aR 20 [i0]),(aR 20 [i1]),(aR 0 [i1])]) <| sB (.call 18 [(aV 21),(aV 4)]) <| sB (.not (aV 22)) <| sI (aV 23) (sR tB [(.bool false)]) <| sB (.call 22 [(aR 16 [i1]),(aI 1)]) <| sB (.cmp .lt i6 (aV 24) (aI 0)) <| sI (aV 25) (sR tB [(.bool false)]) <| sB (.cmp .ne i6 (aV 24) (aR 16 [i0])) <| sI (aV 26) (sR tB [(.bool false)]) <| sR tB [(.bool true)]
noncomputable def fn3 (x : sg3.p.den) : Option sg3.r.den := st3.den [⟨sg14.key, sg14.p, sg14.r, fn14⟩, ⟨sg16.key, sg16.p, sg16.r, fn16⟩, ⟨sg15.key, sg15.p, sg15.r, fn15⟩, ⟨sg17.key, sg17.p, sg17.r, fn17⟩, ⟨sg18.key, sg18.p, sg18.r, fn18⟩, ⟨sg19.key, sg19.p, sg19.r, fn19⟩, ⟨sg20.key, sg20.p, sg20.r, fn20⟩, ⟨sg21.key, sg21.p, sg21.r, fn21⟩, ⟨sg22.key, sg22.p, sg22.r, fn22⟩] [] sg3.r [⟨sg3.p, x⟩]
theorem spec3 : CallSpec Try.prog sg3 fn3 := spec (ss := [sg14, sg16, sg15, sg17, sg18, sg19, sg20, sg21, sg22]) (an := an3) (stm := st3) follows (Specs.cons spec14 (Specs.cons spec16 (Specs.cons spec15 (Specs.cons spec17 (Specs.cons spec18 (Specs.cons spec19 (Specs.cons spec20 (Specs.cons spec21 (Specs.cons spec22 (Specs.nil) (by kernel_rfl)) (by kernel_rfl)) (by kernel_rfl)) (by kernel_rfl)) (by kernel_rfl)) (by kernel_rfl)) (by kernel_rfl)) (by kernel_rfl)) (by kernel_rfl)) (by kernel_rfl) (by kernel_rfl) (fun _ => rfl)
theorem eq3 : fn3 = Pf.laws_FnExactPathTo := by kernel_rfl
-- laws.toConn
def sg36 : Sig := ⟨36,36,[.val i1 (tP tI (tP (tP tI tI) (tS 51 (tP tI tI))))],[.val i1 (tP tI (tP (tP tI tI) (tS 57 (tP tI tI)))) i0]⟩
def an36 : Ann := ⟨16,[],[],[],[],[]⟩
def st36 : Stm := sB (.call 73 [(aR 0 [i1,i0,i0]),(aR 0 [i1,i0,i1])]) <| sB (.call 74 [(aR 0 [i1,i1])]) <| sR (tP tI (tP (tP tI tI) (tS 57 (tP tI tI)))) [(aR 0 [i0]),(aR 1 [i0]),(aR 1 [i1]),(aV 2)]
noncomputable def fn36 (x : sg36.p.den) : Option sg36.r.den := st36.den [⟨sg73.key, sg73.p, sg73.r, fn73⟩, ⟨sg74.key, sg74.p, sg74.r, fn74⟩] [] sg36.r [⟨sg36.p, x⟩]
theorem spec36 : CallSpec Try.prog sg36 fn36 := spec (ss := [sg73, sg74]) (an := an36) (stm := st36) follows (Specs.cons spec73 (Specs.cons spec74 (Specs.nil) (by kernel_rfl)) (by kernel_rfl)) (by kernel_rfl) (by kernel_rfl) (fun _ => rfl)
theorem eq36 : fn36 = Pf.laws_toConn := by kernel_rfl
-- laws.eqConn
def sg38 : Sig := ⟨38,38,[.val i1 (tP tI (tP (tP tI tI) (tS 57 (tP tI tI)))),.val i1 (tP tI (tP (tP tI tI) (tS 57 (tP tI tI))))],[.val i0 tB i1]⟩
def an38 : Ann := ⟨22,[],[],[],[],[]⟩
def st38 : Stm := sB (.cmp .ne i6 (aR 0 [i0,i0]) (aR 0 [i1,i0])) <| sI (aV 1) (sR tB [(.bool false)]) <| sB (.call 77 [(aR 0 [i0,i1,i0,i0]),(aR 0 [i0,i1,i0,i1]),(aR 0 [i1,i1,i0,i0]),(aR 0 [i1,i1,i0,i1])]) <| sB (.not (aV 2)) <| sI (aV 3) (sR tB [(.bool false)]) <| sB (.call 51 [(aR 0 [i0,i1,i1]),(aR 0 [i1,i1,i1])]) <| sB (.not (aV 4)) <| sI (aV 5) (sR tB [(.bool false)]) <| sR tB [(.bool true)]
noncomputable def fn38 (x : sg38.p.den) : Option sg38.r.den := st38.den [⟨sg77.key, sg77.p, sg77.r, fn77⟩, ⟨sg51.key, sg51.p, sg51.r, fn51⟩] [] sg38.r [⟨sg38.p, x⟩]
theorem spec38 : CallSpec Try.prog sg38 fn38 := spec (ss := [sg77, sg51]) (an := an38) (stm := st38) follows (Specs.cons spec77 (Specs.cons spec51 (Specs.nil) (by kernel_rfl)) (by kernel_rfl)) (by kernel_rfl) (by kernel_rfl) (fun _ => rfl)
theorem eq38 : fn38 = Pf.laws_eqConn := by kernel_rfl
-- spec.TileKind
def sg62 : Sig := ⟨62,62,[.val i1 (tP tI (tP tI (tP tI tI))),.val i0 tI],[.val i0 tI i1]⟩
def an62 : Ann := ⟨55,[],[],[],[],[]⟩
def st62 : Stm := sB (.call 61 [(aR 0 [i0,i0]),(aR 0 [i0,i1,i0]),(aR 0 [i0,i1,i1,i0]),(aR 0 [i0,i1,i1,i1])]) <| sB (.not (aV 1)) <| sI (aV 2) (sR tI [(aI (-1))]) <| sB (.cmp .lt i6 (aR 0 [i1]) (aI 0)) <| sI (aV 3) (sR tI [(aI (-1))]) <| sB (.bin .mul i6 (aR 0 [i0,i0]) (aR 0 [i0,i1,i0])) <| sB (.cmp .ge i6 (aR 0 [i1]) (aV 4)) <| sI (aV 5) (sR tI [(aI (-1))]) <| sB (.rem i6 (aR 0 [i1]) (aR 0 [i0,i0])) <| sB (.div i6 (aR 0 [i1]) (aR 0 [i0,i0])) <| sB (.cmp .eq i6 (aV 6) (aI 0)) <| sI (aV 8) (sR tI [(aI 0)]) <| sB (.cmp .eq i6 (aV 7) (aI 0)) <| sI (aV 9) (sR tI [(aI 0)]) <| sB (.bin .sub i6 (aR 0 [i0,i0]) (aI 1)) <| sB (.cmp .eq i6 (aV 6) (aV 10)) <| sI (aV 11) (sR tI [(aI 0)]) <| sB (.bin .sub i6 (aR 0 [i0,i1,i0]) (aI 1)) <| sB (.cmp .eq i6 (aV 7) (aV 12)) <| sI (aV 13) (sR tI [(aI 0)]) <| sB (.cmp .eq i6 (aV 6) (aR 0 [i0,i1,i1,i1])) <| sI (aV 14) (sR tI [(aI 2)]) <| sR tI [(aI 1)]
noncomputable def fn62 (x : sg62.p.den) : Option sg62.r.den := st62.den [⟨sg61.key, sg61.p, sg61.r, fn61⟩] [] sg62.r [⟨sg62.p, x⟩]
theorem spec62 : CallSpec Try.prog sg62 fn62 := spec (ss := [sg61]) (an := an62) (stm := st62) follows (Specs.cons spec61 (Specs.nil) (by kernel_rfl)) (by kernel_rfl) (by kernel_rfl) (fun _ => rfl)
theorem eq62 : fn62 = Pf.spec_TileKind := by kernel_rfl
-- impl.TilesOf
def sg69 : Sig := ⟨69,69,[.val i1 (tP tI (tP tI (tP tI tI))),.val i0 tI],[.val i0 (tS 3 tI) i1]⟩
def an69 : Ann := ⟨29,[],[],[(0,(tP (tS 3 tI) tI),[(1,(sW (aR 0 [i1]))),(2,(.c (.h 0))),(5,(.c (.h 1))),(6,(sW (aR 3 [i1])))],[(.box 37 [(sV (aR 0 [i0,i0])),(sV (aR 0 [i0,i1,i0])),(sV (aR 0 [i0,i1,i1,i0])),(sV (aR 0 [i0,i1,i1,i1]))]),(.list 3 tI (aR 3 [i0]) i1 none)])],[],[]⟩
def st69 : Stm := sB (.call 64 [(aR 0 [i0,i0]),(aR 0 [i0,i1,i0]),(aR 0 [i0,i1,i1,i0]),(aR 0 [i0,i1,i1,i1])]) <| sB (.not (aV 1)) <| sI (aV 2) (sR (tS 3 tI) [(.nil (tS 3 tI))]) <| sL (tP (tS 3 tI) tI) [(.nil (tS 3 tI)),(aI 0)] <| sB (.bin .mul i6 (aR 0 [i0,i0]) (aR 0 [i0,i1,i0])) <| sB (.cmp .lt i6 (aR 3 [i1]) (aV 4)) <| sI (aV 5) (sB (.call 85 [(aR 0 [i0,i0]),(aR 0 [i0,i1,i0]),(aR 0 [i0,i1,i1,i0]),(aR 0 [i0,i1,i1,i1]),(aR 3 [i1])]) <| sB (.cmp .eq i6 (aV 6) (aR 0 [i1])) <| sI (aV 7) (sB (.lst 3 tI [[(aR 3 [i1])]]) <| sB (.app 8 (aR 3 [i0]) (aV 8)) <| sB (.bin .add i6 (aR 3 [i1]) (aI 1)) <| sN (tP (tS 3 tI) tI) [(aV 9),(aV 10)]) <| sB (.bin .add i6 (aR 3 [i1]) (aI 1)) <| sN (tP (tS 3 tI) tI) [(aR 3 [i0]),(aV 8)]) <| sU <| sR (tS 3 tI) [(aR 3 [i0])]
noncomputable def fn69 (x : sg69.p.den) : Option sg69.r.den := st69.den [⟨sg64.key, sg64.p, sg64.r, fn64⟩, ⟨sg85.key, sg85.p, sg85.r, fn85⟩] [] sg69.r [⟨sg69.p, x⟩]
theorem spec69 : CallSpec Try.prog sg69 fn69 := spec (ss := [sg64, sg85]) (an := an69) (stm := st69) follows (Specs.cons spec64 (Specs.cons spec85 (Specs.nil) (by kernel_rfl)) (by kernel_rfl)) (by kernel_rfl) (by kernel_rfl) (fun _ => rfl)
theorem eq69 : fn69 = Pf.impl_TilesOf := by kernel_rfl
-- impl.tileOk
def sg76 : Sig := ⟨76,76,[.val i1 (tP tI (tP tI (tP tI tI))),.val i0 tI],[.val i0 tB i1]⟩
def an76 : Ann := ⟨17,[],[],[],[],[]⟩
def st76 : Stm := sB (.call 64 [(aR 0 [i0,i0]),(aR 0 [i0,i1,i0]),(aR 0 [i0,i1,i1,i0]),(aR 0 [i0,i1,i1,i1])]) <| sI (aV 1) (sB (.bin .mul i6 (aR 0 [i0,i0]) (aR 0 [i0,i1,i0])) <| sB (.bin .sub i6 (aV 2) (aI 1)) <| sB (.call 60 [(aR 0 [i1]),(aI 0),(aV 3)]) <| sR tB [(aV 4)]) <| sR tB [(.bool false)]
noncomputable def fn76 (x : sg76.p.den) : Option sg76.r.den := st76.den [⟨sg64.key, sg64.p, sg64.r, fn64⟩, ⟨sg60.key, sg60.p, sg60.r, fn60⟩] [] sg76.r [⟨sg76.p, x⟩]
theorem spec76 : CallSpec Try.prog sg76 fn76 := spec (ss := [sg64, sg60]) (an := an76) (stm := st76) follows (Specs.cons spec64 (Specs.cons spec60 (Specs.nil) (by kernel_rfl)) (by kernel_rfl)) (by kernel_rfl) (by kernel_rfl) (fun _ => rfl)
theorem eq76 : fn76 = Pf.impl_tileOk := by kernel_rfl
-- spec.PlaceOk
def sg23 : Sig := ⟨23,23,[.val i1 (tP tI (tP tI (tP tI tI))),.val i0 (tS 3 tI),.val i0 (tS 3 tI)],[.val i0 tB i1]⟩
def an23 : Ann := ⟨69,[(7,[0,1,2,3,4,5,6])],[],[(0,(tP tI (tS 4 tB)),[(1,(.c (.s none (aR 0 [i1,i0])))),(2,(.c (.s none (aR 0 [i1,i1])))),(3,(.c (.h 0))),(7,(.c (.h 1))),(8,(sW (aR 10 [i0])))],[(.box 37 [(sV (aR 0 [i0,i0])),(sV (aR 0 [i0,i1,i0])),(sV (aR 0 [i0,i1,i1,i0])),(sV (aR 0 [i0,i1,i1,i1]))]),(.list 4 tB (aR 10 [i1]) i0 none)])],[],[]⟩
def st23 : Stm := sB (.call 61 [(aR 0 [i0,i0]),(aR 0 [i0,i1,i0]),(aR 0 [i0,i1,i1,i0]),(aR 0 [i0,i1,i1,i1])]) <| sB (.not (aV 1)) <| sI (aV 2) (sR tB [(.bool false)]) <| sB (.len (aR 0 [i1,i0])) <| sB (.cmp .gt i6 (aV 3) (aI 64)) <| sI (aV 4) (sR tB [(.bool false)]) <| sB (.len (aR 0 [i1,i1])) <| sB (.len (aR 0 [i1,i0])) <| sB (.cmp .ne i6 (aV 5) (aV 6)) <| sI (aV 7) (sR tB [(.bool false)]) <| sB (.bin .mul i6 (aR 0 [i0,i0]) (aR 0 [i0,i1,i0])) <| sB (.make 1 4 tB (aV 8)) <| sL (tP tI (tS 4 tB)) [(aI 0),(aV 9)] <| sB (.len (aR 0 [i1,i0])) <| sB (.cmp .lt i6 (aR 10 [i0]) (aV 11)) <| sI (aV 12) (sB (.get (aR 0 [i1,i1]) (aR 10 [i0])) <| sB (.call 62 [(aR 0 [i0,i0]),(aR 0 [i0,i1,i0]),(aR 0 [i0,i1,i1,i0]),(aR 0 [i0,i1,i1,i1]),(aV 13)]) <| sB (.cmp .lt i6 (aV 14) (aI 0)) <| sI (aV 15) (sU <| sR tB [(.bool false)]) <| sB (.get (aR 0 [i1,i0]) (aR 10 [i0])) <| sB (.call 63 [(aV 16)]) <| sB (.cmp .ne i6 (aV 14) (aV 17)) <| sI (aV 18) (sU <| sR tB [(.bool false)]) <| sB (.get (aR 0 [i1,i1]) (aR 10 [i0])) <| sB (.idx (aR 10 [i1]) (aV 19)) <| sB (.get (aR 10 [i1]) (aV 19)) <| sI (aV 21) (sU <| sR tB [(.bool false)]) <| sB (.get (aR 0 [i1,i1]) (aR 10 [i0])) <| sB (.idx (aR 10 [i1]) (aV 22)) <| sB (.get (aR 10 [i1]) (aV 22)) <| sB (.mk tB [(.bool true)]) <| sB (.set (aR 10 [i1]) (aV 22) (aV 25)) <| sB (.bin .add i6 (aR 10 [i0]) (aI 1)) <| sN (tP tI (tS 4 tB)) [(aV 27),(aV 26)]) <| sU <| sR tB [(.bool true)]
noncomputable def fn23 (x : sg23.p.den) : Option sg23.r.den := st23.den [⟨sg61.key, sg61.p, sg61.r, fn61⟩, ⟨sg62.key, sg62.p, sg62.r, fn62⟩, ⟨sg63.key, sg63.p, sg63.r, fn63⟩] [] sg23.r [⟨sg23.p, x⟩]
theorem spec23 : CallSpec Try.prog sg23 fn23 := spec (ss := [sg61, sg62, sg63]) (an := an23) (stm := st23) follows (Specs.cons spec61 (Specs.cons spec62 (Specs.cons spec63 (Specs.nil) (by kernel_rfl)) (by kernel_rfl)) (by kernel_rfl)) (by kernel_rfl) (by kernel_rfl) (fun _ => rfl)
theorem eq23 : fn23 = Pf.spec_PlaceOk := by kernel_rfl
-- impl.NearestFree
def sg28 : Sig := ⟨28,28,[.val i1 (tP tI (tP tI (tP tI tI))),.val i0 tI,.val i0 tI,.val i0 tI,.val i0 (tS 3 tI)],[.val i0 tI i1]⟩
def an28 : Ann := ⟨74,[(8,[0,1,2,3,4,5,6,7,8,9,10,11,12,13,14,15])],[],[(0,(tP tI (tP tI tI)),[(2,(sW (aR 0 [i1,i1,i0]))),(3,(sW (aR 0 [i1,i1,i1,i0]))),(4,(.c (.s none (aR 0 [i1,i1,i1,i1])))),(5,(.c (.h 0))),(11,(sW (aR 9 [i1,i0]))),(12,(sW (aR 9 [i1,i1]))),(33,(.c (.h 1))),(34,(sW (aV 8))),(35,(sW (aR 9 [i0])))],[(.box 37 [(sV (aR 0 [i0,i0])),(sV (aR 0 [i0,i1,i0])),(sV (aR 0 [i0,i1,i1,i0])),(sV (aR 0 [i0,i1,i1,i1]))]),(.list 3 tI (aV 7) i1 none)])],[],[]⟩
def st28 : Stm := sB (.call 64 [(aR 0 [i0,i0]),(aR 0 [i0,i1,i0]),(aR 0 [i0,i1,i1,i0]),(aR 0 [i0,i1,i1,i1])]) <| sB (.not (aV 1)) <| sI (aV 2) (sR tI [(aI (-1))]) <| sB (.call 60 [(aR 0 [i1,i1,i0]),(aI 0),(aI 600)]) <| sB (.not (aV 3)) <| sI (aV 4) (sR tI [(aI (-1))]) <| sB (.call 60 [(aR 0 [i1,i1,i1,i0]),(aI 0),(aI 600)]) <| sB (.not (aV 5)) <| sI (aV 6) (sR tI [(aI (-1))]) <| sB (.call 69 [(aR 0 [i0,i0]),(aR 0 [i0,i1,i0]),(aR 0 [i0,i1,i1,i0]),(aR 0 [i0,i1,i1,i1]),(aR 0 [i1,i0])]) <| sB (.len (aV 7)) <| sL (tP tI (tP tI tI)) [(aI 0),(aI (-1)),(aI 0)] <| sB (.cmp .lt i6 (aR 9 [i0]) (aV 8)) <| sI (aV 10) (sB (.idx (aV 7) (aR 9 [i0])) <| sB (.get (aV 7) (aR 9 [i0])) <| sB (.call 66 [(aR 0 [i1,i1,i1,i1]),(aV 12)]) <| sI (aV 13) (sB (.bin .add i6 (aR 9 [i0]) (aI 1)) <| sN (tP tI (tP tI tI)) [(aV 14),(aR 9 [i1,i0]),(aR 9 [i1,i1])]) <| sB (.rem i6 (aV 12) (aR 0 [i0,i0])) <| sB (.bin .mul i6 (aI 100) (aV 14)) <| sB (.bin .sub i6 (aV 15) (aR 0 [i1,i1,i0])) <| sB (.div i6 (aV 12) (aR 0 [i0,i0])) <| sB (.bin .mul i6 (aI 100) (aV 17)) <| sB (.bin .sub i6 (aV 18) (aR 0 [i1,i1,i1,i0])) <| sB (.bin .mul i6 (aV 16) (aV 16)) <| sB (.bin .mul i6 (aV 19) (aV 19)) <| sB (.bin .add i6 (aV 20) (aV 21)) <| sB (.cmp .lt i6 (aR 9 [i1,i0]) (aI 0)) <| sI (aV 23) (sB (.bin .add i6 (aR 9 [i0]) (aI 1)) <| sN (tP tI (tP tI tI)) [(aV 24),(aV 12),(aV 22)]) <| sB (.cmp .lt i6 (aV 22) (aR 9 [i1,i1])) <| sI (aV 24) (sB (.bin .add i6 (aR 9 [i0]) (aI 1)) <| sN (tP tI (tP tI tI)) [(aV 25),(aV 12),(aV 22)]) <| sB (.bin .add i6 (aR 9 [i0]) (aI 1)) <| sN (tP tI (tP tI tI)) [(aV 25),(aR 9 [i1,i0]),(aR 9 [i1,i1])]) <| sU <| sR tI [(aR 9 [i1,i0])]
noncomputable def fn28 (x : sg28.p.den) : Option sg28.r.den := st28.den [⟨sg64.key, sg64.p, sg64.r, fn64⟩, ⟨sg60.key, sg60.p, sg60.r, fn60⟩, ⟨sg69.key, sg69.p, sg69.r, fn69⟩, ⟨sg66.key, sg66.p, sg66.r, fn66⟩] [] sg28.r [⟨sg28.p, x⟩]
theorem spec28 : CallSpec Try.prog sg28 fn28 := spec (ss := [sg64, sg60, sg69, sg66]) (an := an28) (stm := st28) follows (Specs.cons spec64 (Specs.cons spec60 (Specs.cons spec69 (Specs.cons spec66 (Specs.nil) (by kernel_rfl)) (by kernel_rfl)) (by kernel_rfl)) (by kernel_rfl)) (by kernel_rfl) (by kernel_rfl) (fun _ => rfl)
theorem eq28 : fn28 = Pf.impl_NearestFree := by kernel_rfl
-- spec.ConnSpan
def sg35 : Sig := ⟨35,35,[.val i1 (tP tI (tP tI (tP tI tI))),.val i0 (tS 3 tI),.val i1 (tP tI (tP (tP tI tI) (tS 57 (tP tI tI))))],[.val i0 tI i1]⟩
def an35 : Ann := ⟨98,[(12,[0,1,2,3,4,5,6,7,8,9,10,11,12,13,14,15,16]),(14,[0,1,2,3,4,5,6,7,8,9]),(15,[0,1,2,3,4,5,6,7,8,9]),(16,[0,1,2,3,4,5,6,7,8,9]),(17,[0,1,2,3,4,5,6,7,8,9])],[],[(0,(tP tI (tP tI (tP tI (tP tI tI)))),[(1,(.c (.s none (aR 0 [i1,i0])))),(3,(.c (.h 0))),(7,(.c (.h 2))),(8,(sW (aR 5 [i0]))),(9,(sW (aR 5 [i1,i0]))),(10,(sW (aR 5 [i1,i1,i0]))),(11,(sW (aR 5 [i1,i1,i1,i0]))),(12,(sW (aR 5 [i1,i1,i1,i1])))],[(.box 37 [(sV (aR 0 [i0,i0])),(sV (aR 0 [i0,i1,i0])),(sV (aR 0 [i0,i1,i1,i0])),(sV (aR 0 [i0,i1,i1,i1]))]),.dead,(.list 57 (tP tI tI) (aV 4) i1 none)])],[],[]⟩
def st35 : Stm := sB (.call 61 [(aR 0 [i0,i0]),(aR 0 [i0,i1,i0]),(aR 0 [i0,i1,i1,i0]),(aR 0 [i0,i1,i1,i1])]) <| sB (.not (aV 1)) <| sI (aV 2) (sR tI [(aI (-1))]) <| sB (.lst 57 (tP tI tI) [[(aR 0 [i1,i1,i1,i0,i0]),(aR 0 [i1,i1,i1,i0,i1])]]) <| sB (.app 16 (aV 3) (aR 0 [i1,i1,i1,i1])) <| sL (tP tI (tP tI (tP tI (tP tI tI)))) [(aR 0 [i0,i0]),(aI 0),(aR 0 [i0,i1,i0]),(aI 0),(aI 0)] <| sB (.len (aV 4)) <| sB (.cmp .lt i6 (aR 5 [i1,i1,i1,i1]) (aV 6)) <| sI (aV 7) (sB (.idx (aV 4) (aR 5 [i1,i1,i1,i1])) <| sB (.get (aV 4) (aR 5 [i1,i1,i1,i1])) <| sB (.cmp .lt i6 (aR 9 [i0]) (aI 0)) <| sI (aV 10) (sU <| sR tI [(aI (-1))]) <| sB (.len (aR 0 [i1,i0])) <| sB (.cmp .ge i6 (aR 9 [i0]) (aV 11)) <| sI (aV 12) (sU <| sR tI [(aI (-1))]) <| sB (.get (aR 0 [i1,i0]) (aR 9 [i0])) <| sB (.call 62 [(aR 0 [i0,i0]),(aR 0 [i0,i1,i0]),(aR 0 [i0,i1,i1,i0]),(aR 0 [i0,i1,i1,i1]),(aV 13)]) <| sB (.cmp .lt i6 (aV 14) (aI 0)) <| sI (aV 15) (sU <| sR tI [(aI (-1))]) <| sB (.get (aR 0 [i1,i0]) (aR 9 [i0])) <| sB (.rem i6 (aV 16) (aR 0 [i0,i0])) <| sB (.min i6 (aR 5 [i0]) (aV 17)) <| sB (.get (aR 0 [i1,i0]) (aR 9 [i0])) <| sB (.rem i6 (aV 19) (aR 0 [i0,i0])) <| sB (.max i6 (aR 5 [i1,i0]) (aV 20)) <| sB (.get (aR 0 [i1,i0]) (aR 9 [i0])) <| sB (.div i6 (aV 22) (aR 0 [i0,i0])) <| sB (.min i6 (aR 5 [i1,i1,i0]) (aV 23)) <| sB (.get (aR 0 [i1,i0]) (aR 9 [i0])) <| sB (.div i6 (aV 25) (aR 0 [i0,i0])) <| sB (.max i6 (aR 5 [i1,i1,i1,i0]) (aV 26)) <| sB (.bin .add i6 (aR 5 [i1,i1,i1,i1]) (aI 1)) <| sN (tP tI (tP tI (tP tI (tP tI tI)))) [(aV 18),(aV 21),(aV 24),(aV 27),(aV 28)]) <| sU <| sB (.bin .sub i6 (aR 5 [i1,i0]) (aR 5 [i0])) <| sB (.bin .add i6 (aV 8) (aR 5 [i1,i1,i1,i0])) <| sB (.bin .sub i6 (aV 9) (aR 5 [i1,i1,i0])) <| sR tI [(aV 10)]
noncomputable def fn35 (x : sg35.p.den) : Option sg35.r.den := st35.den [⟨sg61.key, sg61.p, sg61.r, fn61⟩, ⟨sg62.key, sg62.p, sg62.r, fn62⟩] [] sg35.r [⟨sg35.p, x⟩]
theorem spec35 : CallSpec Try.prog sg35 fn35 := spec (ss := [sg61, sg62]) (an := an35) (stm := st35) follows (Specs.cons spec61 (Specs.cons spec62 (Specs.nil) (by kernel_rfl)) (by kernel_rfl)) (by kernel_rfl) (by kernel_rfl) (fun _ => rfl)
theorem eq35 : fn35 = Pf.spec_ConnSpan := by kernel_rfl
-- impl.ConnSpan
def sg37 : Sig := ⟨37,37,[.val i1 (tP tI (tP tI (tP tI tI))),.val i0 (tS 3 tI),.val i1 (tP tI (tP (tP tI tI) (tS 57 (tP tI tI))))],[.val i0 tI i1]⟩
def an37 : Ann := ⟨78,[(7,[0,1,2,3,4,5,6,7,8,9,10,11,12,13,14,15,16]),(9,[0,1,2,3,4,5,6,7,8,9,10,11,12,13,14,15,16,17])],[],[(0,(tP tI (tP tI (tP tI (tP tI tI)))),[(1,(.c (.s none (aR 0 [i1,i0])))),(3,(.c (.h 0))),(7,(sW (aR 5 [i0]))),(8,(sW (aR 5 [i1,i0]))),(9,(sW (aR 5 [i1,i1,i0]))),(10,(sW (aR 5 [i1,i1,i1,i0]))),(19,(.c (.h 2))),(20,(sW (aV 4))),(21,(sW (aR 5 [i1,i1,i1,i1])))],[(.box 37 [(sV (aR 0 [i0,i0])),(sV (aR 0 [i0,i1,i0])),(sV (aR 0 [i0,i1,i1,i0])),(sV (aR 0 [i0,i1,i1,i1]))]),.dead,(.list 57 (tP tI tI) (aV 3) i1 none)])],[],[]⟩
def st37 : Stm := sB (.call 64 [(aR 0 [i0,i0]),(aR 0 [i0,i1,i0]),(aR 0 [i0,i1,i1,i0]),(aR 0 [i0,i1,i1,i1])]) <| sB (.not (aV 1)) <| sI (aV 2) (sR tI [(aI (-1))]) <| sB (.call 75 [(aR 0 [i1,i1,i0]),(aR 0 [i1,i1,i1,i0,i0]),(aR 0 [i1,i1,i1,i0,i1]),(aR 0 [i1,i1,i1,i1])]) <| sB (.len (aV 3)) <| sL (tP tI (tP tI (tP tI (tP tI tI)))) [(aI 6),(aI (-1)),(aI 6),(aI (-1)),(aI 0)] <| sB (.cmp .lt i6 (aR 5 [i1,i1,i1,i1]) (aV 4)) <| sI (aV 6) (sB (.idx (aV 3) (aR 5 [i1,i1,i1,i1])) <| sB (.get (aV 3) (aR 5 [i1,i1,i1,i1])) <| sB (.len (aR 0 [i1,i0])) <| sB (.bin .sub i6 (aV 9) (aI 1)) <| sB (.call 60 [(aR 8 [i0]),(aI 0),(aV 10)]) <| sB (.not (aV 11)) <| sI (aV 12) (sU <| sR tI [(aI (-1))]) <| sB (.get (aR 0 [i1,i0]) (aR 8 [i0])) <| sB (.call 76 [(aR 0 [i0,i0]),(aR 0 [i0,i1,i0]),(aR 0 [i0,i1,i1,i0]),(aR 0 [i0,i1,i1,i1]),(aV 13)]) <| sB (.not (aV 14)) <| sI (aV 15) (sU <| sR tI [(aI (-1))]) <| sB (.get (aR 0 [i1,i0]) (aR 8 [i0])) <| sB (.rem i6 (aV 16) (aR 0 [i0,i0])) <| sB (.get (aR 0 [i1,i0]) (aR 8 [i0])) <| sB (.div i6 (aV 18) (aR 0 [i0,i0])) <| sB (.min i6 (aR 5 [i0]) (aV 17)) <| sB (.max i6 (aR 5 [i1,i0]) (aV 17)) <| sB (.min i6 (aR 5 [i1,i1,i0]) (aV 19)) <| sB (.max i6 (aR 5 [i1,i1,i1,i0]) (aV 19)) <| sB (.bin .add i6 (aR 5 [i1,i1,i1,i1]) (aI 1)) <| sN (tP tI (tP tI (tP tI (tP tI tI)))) [(aV 20),(aV 21),(aV 22),(aV 23),(aV 24)]) <| sU <| sB (.bin .sub i6 (aR 5 [i1,i0]) (aR 5 [i0])) <| sB (.bin .add i6 (aV 7) (aR 5 [i1,i1,i1,i0])) <| sB (.bin .sub i6 (aV 8) (aR 5 [i1,i1,i0])) <| sR tI [(aV 9)]
noncomputable def fn37 (x : sg37.p.den) : Option sg37.r.den := st37.den [⟨sg64.key, sg64.p, sg64.r, fn64⟩, ⟨sg75.key, sg75.p, sg75.r, fn75⟩, ⟨sg60.key, sg60.p, sg60.r, fn60⟩, ⟨sg76.key, sg76.p, sg76.r, fn76⟩] [] sg37.r [⟨sg37.p, x⟩]
theorem spec37 : CallSpec Try.prog sg37 fn37 := spec (ss := [sg64, sg75, sg60, sg76]) (an := an37) (stm := st37) follows (Specs.cons spec64 (Specs.cons spec75 (Specs.cons spec60 (Specs.cons spec76 (Specs.nil) (by kernel_rfl)) (by kernel_rfl)) (by kernel_rfl)) (by kernel_rfl)) (by kernel_rfl) (by kernel_rfl) (fun _ => rfl)
theorem eq37 : fn37 = Pf.impl_ConnSpan := by kernel_rfl
-- impl.TileKind
def sg45 : Sig := ⟨45,45,[.val i1 (tP tI (tP tI (tP tI tI))),.val i0 tI],[.val i0 tI i1]⟩
def an45 : Ann := ⟨12,[],[],[],[],[]⟩
def st45 : Stm := sB (.call 76 [(aR 0 [i0,i0]),(aR 0 [i0,i1,i0]),(aR 0 [i0,i1,i1,i0]),(aR 0 [i0,i1,i1,i1]),(aR 0 [i1])]) <| sB (.not (aV 1)) <| sI (aV 2) (sR tI [(aI (-1))]) <| sB (.call 85 [(aR 0 [i0,i0]),(aR 0 [i0,i1,i0]),(aR 0 [i0,i1,i1,i0]),(aR 0 [i0,i1,i1,i1]),(aR 0 [i1])]) <| sR tI [(aV 3)]
noncomputable def fn45 (x : sg45.p.den) : Option sg45.r.den := st45.den [⟨sg76.key, sg76.p, sg76.r, fn76⟩, ⟨sg85.key, sg85.p, sg85.r, fn85⟩] [] sg45.r [⟨sg45.p, x⟩]
theorem spec45 : CallSpec Try.prog sg45 fn45 := spec (ss := [sg76, sg85]) (an := an45) (stm := st45) follows (Specs.cons spec76 (Specs.cons spec85 (Specs.nil) (by kernel_rfl)) (by kernel_rfl)) (by kernel_rfl) (by kernel_rfl) (fun _ => rfl)
theorem eq45 : fn45 = Pf.impl_TileKind := by kernel_rfl
-- spec.TilesOf
def sg46 : Sig := ⟨46,46,[.val i1 (tP tI (tP tI (tP tI tI))),.val i0 tI],[.val i0 (tS 3 tI) i0]⟩
def an46 : Ann := ⟨31,[],[],[(0,(tP tI (tS 3 tI)),[(1,(sW (aR 0 [i1]))),(2,(.c (.h 0))),(5,(.c (.h 1))),(6,(sW (aR 3 [i0])))],[(.box 37 [(sV (aR 0 [i0,i0])),(sV (aR 0 [i0,i1,i0])),(sV (aR 0 [i0,i1,i1,i0])),(sV (aR 0 [i0,i1,i1,i1]))]),(.list 3 tI (aR 3 [i1]) i0 none)])],[],[]⟩
def st46 : Stm := sB (.call 61 [(aR 0 [i0,i0]),(aR 0 [i0,i1,i0]),(aR 0 [i0,i1,i1,i0]),(aR 0 [i0,i1,i1,i1])]) <| sB (.not (aV 1)) <| sI (aV 2) (sR (tS 3 tI) [(.nil (tS 3 tI))]) <| sL (tP tI (tS 3 tI)) [(aI 0),(.nil (tS 3 tI))] <| sB (.bin .mul i6 (aR 0 [i0,i0]) (aR 0 [i0,i1,i0])) <| sB (.cmp .lt i6 (aR 3 [i0]) (aV 4)) <| sI (aV 5) (sB (.call 62 [(aR 0 [i0,i0]),(aR 0 [i0,i1,i0]),(aR 0 [i0,i1,i1,i0]),(aR 0 [i0,i1,i1,i1]),(aR 3 [i0])]) <| sB (.cmp .eq i6 (aV 6) (aR 0 [i1])) <| sI (aV 7) (sB (.lst 3 tI [[(aR 3 [i0])]]) <| sB (.app 8 (aR 3 [i1]) (aV 8)) <| sB (.bin .add i6 (aR 3 [i0]) (aI 1)) <| sN (tP tI (tS 3 tI)) [(aV 10),(aV 9)]) <| sB (.bin .add i6 (aR 3 [i0]) (aI 1)) <| sN (tP tI (tS 3 tI)) [(aV 8),(aR 3 [i1])]) <| sU <| sR (tS 3 tI) [(aR 3 [i1])]
noncomputable def fn46 (x : sg46.p.den) : Option sg46.r.den := st46.den [⟨sg61.key, sg61.p, sg61.r, fn61⟩, ⟨sg62.key, sg62.p, sg62.r, fn62⟩] [] sg46.r [⟨sg46.p, x⟩]
theorem spec46 : CallSpec Try.prog sg46 fn46 := spec (ss := [sg61, sg62]) (an := an46) (stm := st46) follows (Specs.cons spec61 (Specs.cons spec62 (Specs.nil) (by kernel_rfl)) (by kernel_rfl)) (by kernel_rfl) (by kernel_rfl) (fun _ => rfl)
theorem eq46 : fn46 = Pf.spec_TilesOf := by kernel_rfl
-- laws.FnExactConnSpan
def sg7 : Sig := ⟨7,7,[.val i1 (tP tI (tP tI (tP tI tI))),.val i0 (tS 3 tI),.val i1 (tP tI (tP (tP tI tI) (tS 51 (tP tI tI))))],[.val i0 tB i1]⟩
def an7 : Ann := ⟨49,[(7,[0,2,4,1,3,5,6,7]),(10,[0,2,3,1,4,5]),(15,[0,1,2,3,4])],[],[],[],[]⟩
def st7 : Stm := sB (.len (aR 0 [i1,i0])) <| sB (.cmp .gt i6 (aV 1) (aI 1048576)) <| sI (aV 2) (sR tB [(.bool true)]) <| sB (.call 34 [(aR 0 [i1,i1,i0]),(aR 0 [i1,i1,i1,i0,i0]),(aR 0 [i1,i1,i1,i0,i1]),(aR 0 [i1,i1,i1,i1]),(aI 1048576)]) <| sB (.cmp .lt i6 (aV 3) (aI 0)) <| sI (aV 4) (sR tB [(.bool true)]) <| sB (.call 24 [(aR 0 [i0,i0]),(aR 0 [i0,i1,i0]),(aR 0 [i0,i1,i1,i0]),(aR 0 [i0,i1,i1,i1])]) <| sB (.call 25 [(aR 0 [i1,i0])]) <| sB (.call 36 [(aR 0 [i1,i1,i0]),(aR 0 [i1,i1,i1,i0,i0]),(aR 0 [i1,i1,i1,i0,i1]),(aR 0 [i1,i1,i1,i1])]) <| sB (.call 35 [(aR 5 [i0]),(aR 5 [i1,i0]),(aR 5 [i1,i1,i0]),(aR 5 [i1,i1,i1]),(aV 6),(aR 7 [i0]),(aR 7 [i1,i0,i0]),(aR 7 [i1,i0,i1]),(aR 7 [i1,i1])]) <| sB (.call 25 [(aR 0 [i1,i0])]) <| sB (.call 36 [(aR 0 [i1,i1,i0]),(aR 0 [i1,i1,i1,i0,i0]),(aR 0 [i1,i1,i1,i0,i1]),(aR 0 [i1,i1,i1,i1])]) <| sB (.call 24 [(aR 0 [i0,i0]),(aR 0 [i0,i1,i0]),(aR 0 [i0,i1,i1,i0]),(aR 0 [i0,i1,i1,i1])]) <| sB (.call 37 [(aR 11 [i0]),(aR 11 [i1,i0]),(aR 11 [i1,i1,i0]),(aR 11 [i1,i1,i1]),(aV 9),(aR 10 [i0]),(aR 10 [i1,i0,i0]),(aR 10 [i1,i0,i1]),(aR 10 [i1,i1])]) <| sB (.cmp .ne i6 (aV 12) (aV 8)) <| sI (aV 13) (sR tB [(.bool false)]) <| sB (.call 25 [(aR 0 [i1,i0])]) <| sB (.call 18 [(aV 9),(aV 14)]) <| sB (.not (aV 15)) <| sI (aV 16) (sR tB [(.bool false)]) <| sB (.call 36 [(aR 0 [i1,i1,i0]),(aR 0 [i1,i1,i1,i0,i0]),(aR 0 [i1,i1,i1,i0,i1]),(aR 0 [i1,i1,i1,i1])]) <| sB (.call 38 [(aR 10 [i0]),(aR 10 [i1,i0,i0]),(aR 10 [i1,i0,i1]),(aR 10 [i1,i1]),(aR 17 [i0]),(aR 17 [i1,i0,i0]),(aR 17 [i1,i0,i1]),(aR 17 [i1,i1])]) <| sB (.not (aV 18)) <| sI (aV 19) (sR tB [(.bool false)]) <| sR tB [(.bool true)]
noncomputable def fn7 (x : sg7.p.den) : Option sg7.r.den := st7.den [⟨sg34.key, sg34.p, sg34.r, fn34⟩, ⟨sg24.key, sg24.p, sg24.r, fn24⟩, ⟨sg25.key, sg25.p, sg25.r, fn25⟩, ⟨sg36.key, sg36.p, sg36.r, fn36⟩, ⟨sg35.key, sg35.p, sg35.r, fn35⟩, ⟨sg37.key, sg37.p, sg37.r, fn37⟩, ⟨sg18.key, sg18.p, sg18.r, fn18⟩, ⟨sg38.key, sg38.p, sg38.r, fn38⟩] [] sg7.r [⟨sg7.p, x⟩]
theorem spec7 : CallSpec Try.prog sg7 fn7 := spec (ss := [sg34, sg24, sg25, sg36, sg35, sg37, sg18, sg38]) (an := an7) (stm := st7) follows (Specs.cons spec34 (Specs.cons spec24 (Specs.cons spec25 (Specs.cons spec36 (Specs.cons spec35 (Specs.cons spec37 (Specs.cons spec18 (Specs.cons spec38 (Specs.nil) (by kernel_rfl)) (by kernel_rfl)) (by kernel_rfl)) (by kernel_rfl)) (by kernel_rfl)) (by kernel_rfl)) (by kernel_rfl)) (by kernel_rfl)) (by kernel_rfl) (by kernel_rfl) (fun _ => rfl)
theorem eq7 : fn7 = Pf.laws_FnExactConnSpan := by kernel_rfl
-- impl.PlaceOk
def sg26 : Sig := ⟨26,26,[.val i1 (tP tI (tP tI (tP tI tI))),.val i0 (tS 3 tI),.val i0 (tS 3 tI)],[.val i0 tB i1]⟩
def an26 : Ann := ⟨54,[],[],[(0,tI,[(1,(.c (.s none (aR 0 [i1,i0])))),(2,(.c (.s none (aR 0 [i1,i1])))),(3,(.c (.h 0))),(25,(.c (.s none (aR 0 [i1,i1])))),(26,(sW (aV 8))),(27,(sW (aV 9)))],[(.box 37 [(sV (aR 0 [i0,i0])),(sV (aR 0 [i0,i1,i0])),(sV (aR 0 [i0,i1,i1,i0])),(sV (aR 0 [i0,i1,i1,i1]))])])],[],[]⟩
def st26 : Stm := sB (.call 64 [(aR 0 [i0,i0]),(aR 0 [i0,i1,i0]),(aR 0 [i0,i1,i1,i0]),(aR 0 [i0,i1,i1,i1])]) <| sB (.not (aV 1)) <| sI (aV 2) (sR tB [(.bool false)]) <| sB (.len (aR 0 [i1,i0])) <| sB (.cmp .gt i6 (aV 3) (aI 64)) <| sI (aV 4) (sR tB [(.bool false)]) <| sB (.len (aR 0 [i1,i1])) <| sB (.len (aR 0 [i1,i0])) <| sB (.cmp .ne i6 (aV 5) (aV 6)) <| sI (aV 7) (sR tB [(.bool false)]) <| sB (.len (aR 0 [i1,i1])) <| sL tI [(aI 0)] <| sB (.cmp .lt i6 (aV 9) (aV 8)) <| sI (aV 10) (sB (.get (aR 0 [i1,i1]) (aV 9)) <| sB (.get (aR 0 [i1,i0]) (aV 9)) <| sB (.call 65 [(aV 12)]) <| sB (.cmp .lt i6 (aV 13) (aI 0)) <| sI (aV 14) (sU <| sR tB [(.bool false)]) <| sB (.call 45 [(aR 0 [i0,i0]),(aR 0 [i0,i1,i0]),(aR 0 [i0,i1,i1,i0]),(aR 0 [i0,i1,i1,i1]),(aV 11)]) <| sB (.cmp .ne i6 (aV 15) (aV 13)) <| sI (aV 16) (sU <| sR tB [(.bool false)]) <| sB (.slice (aR 0 [i1,i1]) none (some (aV 9))) <| sB (.call 66 [(aV 17),(aV 11)]) <| sI (aV 18) (sU <| sR tB [(.bool false)]) <| sB (.bin .add i6 (aV 9) (aI 1)) <| sN tI [(aV 19)]) <| sU <| sR tB [(.bool true)]
noncomputable def fn26 (x : sg26.p.den) : Option sg26.r.den := st26.den [⟨sg64.key, sg64.p, sg64.r, fn64⟩, ⟨sg65.key, sg65.p, sg65.r, fn65⟩, ⟨sg45.key, sg45.p, sg45.r, fn45⟩, ⟨sg66.key, sg66.p, sg66.r, fn66⟩] [] sg26.r [⟨sg26.p, x⟩]
theorem spec26 : CallSpec Try.prog sg26 fn26 := spec (ss := [sg64, sg65, sg45, sg66]) (an := an26) (stm := st26) follows (Specs.cons spec64 (Specs.cons spec65 (Specs.cons spec45 (Specs.cons spec66 (Specs.nil) (by kernel_rfl)) (by kernel_rfl)) (by kernel_rfl)) (by kernel_rfl)) (by kernel_rfl) (by kernel_rfl) (fun _ => rfl)
theorem eq26 : fn26 = Pf.impl_PlaceOk := by kernel_rfl
-- spec.NearestFree
def sg27 : Sig := ⟨27,27,[.val i1 (tP tI (tP tI (tP tI tI))),.val i0 tI,.val i0 tI,.val i0 tI,.val i0 (tS 3 tI)],[.val i0 tI i1]⟩
def an27 : Ann := ⟨84,[(9,[0,1,2,3,4,5,6,7,8,9,10]),(10,[0,1,2,3,4,5,6,7,8,9,10])],[],[(0,(tP tI (tP tI tI)),[(2,(sW (aR 0 [i1,i1,i0]))),(3,(sW (aR 0 [i1,i1,i1,i0]))),(4,(.c (.s none (aR 0 [i1,i1,i1,i1])))),(5,(.c (.h 0))),(11,(.c (.h 1))),(12,(sW (aR 6 [i0]))),(13,(sW (aR 6 [i1,i0]))),(14,(sW (aR 6 [i1,i1])))],[(.box 37 [(sV (aR 0 [i0,i0])),(sV (aR 0 [i0,i1,i0])),(sV (aR 0 [i0,i1,i1,i0])),(sV (aR 0 [i0,i1,i1,i1]))]),(.list 3 tI (aV 5) i0 none)])],[],[]⟩
def st27 : Stm := sB (.call 67 [(aR 0 [i1,i1,i0]),(aI 0),(aI 600)]) <| sB (.not (aV 1)) <| sI (aV 2) (sR tI [(aI (-1))]) <| sB (.call 67 [(aR 0 [i1,i1,i1,i0]),(aI 0),(aI 600)]) <| sB (.not (aV 3)) <| sI (aV 4) (sR tI [(aI (-1))]) <| sB (.call 46 [(aR 0 [i0,i0]),(aR 0 [i0,i1,i0]),(aR 0 [i0,i1,i1,i0]),(aR 0 [i0,i1,i1,i1]),(aR 0 [i1,i0])]) <| sL (tP tI (tP tI tI)) [(aI (-1)),(aI 0),(aI 0)] <| sB (.len (aV 5)) <| sB (.cmp .lt i6 (aR 6 [i1,i1]) (aV 7)) <| sI (aV 8) (sB (.idx (aV 5) (aR 6 [i1,i1])) <| sB (.get (aV 5) (aR 6 [i1,i1])) <| sB (.rem i6 (aV 10) (aR 0 [i0,i0])) <| sB (.bin .mul i6 (aI 100) (aV 11)) <| sB (.bin .sub i6 (aV 12) (aR 0 [i1,i1,i0])) <| sB (.idx (aV 5) (aR 6 [i1,i1])) <| sB (.get (aV 5) (aR 6 [i1,i1])) <| sB (.div i6 (aV 15) (aR 0 [i0,i0])) <| sB (.bin .mul i6 (aI 100) (aV 16)) <| sB (.bin .sub i6 (aV 17) (aR 0 [i1,i1,i1,i0])) <| sB (.bin .mul i6 (aV 13) (aV 13)) <| sB (.bin .mul i6 (aV 18) (aV 18)) <| sB (.bin .add i6 (aV 19) (aV 20)) <| sB (.idx (aV 5) (aR 6 [i1,i1])) <| sB (.get (aV 5) (aR 6 [i1,i1])) <| sB (.call 68 [(aR 0 [i1,i1,i1,i1]),(aV 23)]) <| sB (.not (aV 24)) <| sI (aV 25) (sB (.cmp .lt i6 (aR 6 [i0]) (aI 0)) <| sI (aV 26) (sB (.idx (aV 5) (aR 6 [i1,i1])) <| sB (.get (aV 5) (aR 6 [i1,i1])) <| sB (.bin .add i6 (aR 6 [i1,i1]) (aI 1)) <| sN (tP tI (tP tI tI)) [(aV 28),(aV 21),(aV 29)]) <| sB (.cmp .lt i6 (aV 21) (aR 6 [i1,i0])) <| sI (aV 27) (sB (.idx (aV 5) (aR 6 [i1,i1])) <| sB (.get (aV 5) (aR 6 [i1,i1])) <| sB (.bin .add i6 (aR 6 [i1,i1]) (aI 1)) <| sN (tP tI (tP tI tI)) [(aV 29),(aV 21),(aV 30)]) <| sB (.bin .add i6 (aR 6 [i1,i1]) (aI 1)) <| sN (tP tI (tP tI tI)) [(aR 6 [i0]),(aR 6 [i1,i0]),(aV 28)]) <| sB (.bin .add i6 (aR 6 [i1,i1]) (aI 1)) <| sN (tP tI (tP tI tI)) [(aR 6 [i0]),(aR 6 [i1,i0]),(aV 26)]) <| sU <| sR tI [(aR 6 [i0])]
noncomputable def fn27 (x : sg27.p.den) : Option sg27.r.den := st27.den [⟨sg67.key, sg67.p, sg67.r, fn67⟩, ⟨sg46.key, sg46.p, sg46.r, fn46⟩, ⟨sg68.key, sg68.p, sg68.r, fn68⟩] [] sg27.r [⟨sg27.p, x⟩]
theorem spec27 : CallSpec Try.prog sg27 fn27 := spec (ss := [sg67, sg46, sg68]) (an := an27) (stm := st27) follows (Specs.cons spec67 (Specs.cons spec46 (Specs.cons spec68 (Specs.nil) (by kernel_rfl)) (by kernel_rfl)) (by kernel_rfl)) (by kernel_rfl) (by kernel_rfl) (fun _ => rfl)
theorem eq27 : fn27 = Pf.spec_NearestFree := by kernel_rfl
-- spec.TryMove
def sg39 : Sig := ⟨39,39,[.val i1 (tP tI (tP tI (tP tI tI))),.val i0 (tS 3 tI),.val i0 (tS 3 tI),.val i0 tI,.val i0 tI],[.val i0 (tS 3 tI) i0,.val i0 tB i0]⟩
def an39 : Ann := ⟨73,[],[],[(0,(tP tI (tS 3 tI)),[(2,(.c (.s none (aR 0 [i1,i1,i0])))),(3,(sW (aR 0 [i1,i1,i1,i0]))),(4,(sW (aR 0 [i1,i1,i1,i1]))),(12,(.c (.h 1))),(14,(sW (aR 12 [i0])))],[.dead,(.list 3 tI (aR 12 [i1]) i0 none)])],[],[]⟩
def st39 : Stm := sB (.app 8 (.nil (tS 3 tI)) (aR 0 [i1,i1,i0])) <| sB (.call 23 [(aR 0 [i0,i0]),(aR 0 [i0,i1,i0]),(aR 0 [i0,i1,i1,i0]),(aR 0 [i0,i1,i1,i1]),(aR 0 [i1,i0]),(aR 0 [i1,i1,i0])]) <| sB (.not (aV 2)) <| sI (aV 3) (sR (tP (tS 3 tI) tB) [(aV 1),(.bool false)]) <| sB (.cmp .lt i6 (aR 0 [i1,i1,i1,i0]) (aI 0)) <| sI (aV 4) (sR (tP (tS 3 tI) tB) [(aV 1),(.bool false)]) <| sB (.len (aR 0 [i1,i1,i0])) <| sB (.cmp .ge i6 (aR 0 [i1,i1,i1,i0]) (aV 5)) <| sI (aV 6) (sR (tP (tS 3 tI) tB) [(aV 1),(.bool false)]) <| sB (.call 62 [(aR 0 [i0,i0]),(aR 0 [i0,i1,i0]),(aR 0 [i0,i1,i1,i0]),(aR 0 [i0,i1,i1,i1]),(aR 0 [i1,i1,i1,i1])]) <| sB (.cmp .lt i6 (aV 7) (aI 0)) <| sI (aV 8) (sR (tP (tS 3 tI) tB) [(aV 1),(.bool false)]) <| sB (.get (aR 0 [i1,i0]) (aR 0 [i1,i1,i1,i0])) <| sB (.call 63 [(aV 9)]) <| sB (.cmp .ne i6 (aV 7) (aV 10)) <| sI (aV 11) (sR (tP (tS 3 tI) tB) [(aV 1),(.bool false)]) <| sL (tP tI (tS 3 tI)) [(aI 0),(aV 1)] <| sB (.len (aR 12 [i1])) <| sB (.cmp .lt i6 (aR 12 [i0]) (aV 13)) <| sI (aV 14) (sB (.idx (aR 12 [i1]) (aR 12 [i0])) <| sB (.get (aR 12 [i1]) (aR 12 [i0])) <| sB (.cmp .eq i6 (aV 16) (aR 0 [i1,i1,i1,i1])) <| sI (aV 17) (sB (.get (aR 0 [i1,i1,i0]) (aR 0 [i1,i1,i1,i0])) <| sB (.idx (aR 12 [i1]) (aR 12 [i0])) <| sB (.get (aR 12 [i1]) (aR 12 [i0])) <| sB (.mk tI [(aV 18)]) <| sB (.set (aR 12 [i1]) (aR 12 [i0]) (aV 21)) <| sB (.bin .add i6 (aR 12 [i0]) (aI 1)) <| sN (tP tI (tS 3 tI)) [(aV 23),(aV 22)]) <| sB (.bin .add i6 (aR 12 [i0]) (aI 1)) <| sN (tP tI (tS 3 tI)) [(aV 18),(aR 12 [i1])]) <| sU <| sB (.idx (aR 12 [i1]) (aR 0 [i1,i1,i1,i0])) <| sB (.get (aR 12 [i1]) (aR 0 [i1,i1,i1,i0])) <| sB (.mk tI [(aR 0 [i1,i1,i1,i1])]) <| sB (.set (aR 12 [i1]) (aR 0 [i1,i1,i1,i0]) (aV 17)) <| sR (tP (tS 3 tI) tB) [(aV 18),(.bool true)]
noncomputable def fn39 (x : sg39.p.den) : Option sg39.r.den := st39.den [⟨sg23.key, sg23.p, sg23.r, fn23⟩, ⟨sg62.key, sg62.p, sg62.r, fn62⟩, ⟨sg63.key, sg63.p, sg63.r, fn63⟩] [] sg39.r [⟨sg39.p, x⟩]
theorem spec39 : CallSpec Try.prog sg39 fn39 := spec (ss := [sg23, sg62, sg63]) (an := an39) (stm := st39) follows (Specs.cons spec23 (Specs.cons spec62 (Specs.cons spec63 (Specs.nil) (by kernel_rfl)) (by kernel_rfl)) (by kernel_rfl)) (by kernel_rfl) (by kernel_rfl) (fun _ => rfl)
theorem eq39 : fn39 = Pf.spec_TryMove := by kernel_rfl
-- laws.FnExactPlaceOk
def sg4 : Sig := ⟨4,4,[.val i1 (tP tI (tP tI (tP tI tI))),.val i0 (tS 3 tI),.val i0 (tS 3 tI)],[.val i0 tB i1]⟩
def an4 : Ann := ⟨46,[],[],[],[],[]⟩
def st4 : Stm := sB (.len (aR 0 [i1,i0])) <| sB (.cmp .gt i6 (aV 1) (aI 1048576)) <| sI (aV 2) (sR tB [(.bool true)]) <| sB (.len (aR 0 [i1,i1])) <| sB (.cmp .gt i6 (aV 3) (aI 1048576)) <| sI (aV 4) (sR tB [(.bool true)]) <| sB (.call 24 [(aR 0 [i0,i0]),(aR 0 [i0,i1,i0]),(aR 0 [i0,i1,i1,i0]),(aR 0 [i0,i1,i1,i1])]) <| sB (.call 25 [(aR 0 [i1,i0])]) <| sB (.call 25 [(aR 0 [i1,i1])]) <| sB (.call 23 [(aR 5 [i0]),(aR 5 [i1,i0]),(aR 5 [i1,i1,i0]),(aR 5 [i1,i1,i1]),(aV 6),(aV 7)]) <| sB (.call 25 [(aR 0 [i1,i0])]) <| sB (.call 25 [(aR 0 [i1,i1])]) <| sB (.call 24 [(aR 0 [i0,i0]),(aR 0 [i0,i1,i0]),(aR 0 [i0,i1,i1,i0]),(aR 0 [i0,i1,i1,i1])]) <| sB (.call 26 [(aR 11 [i0]),(aR 11 [i1,i0]),(aR 11 [i1,i1,i0]),(aR 11 [i1,i1,i1]),(aV 9),(aV 10)]) <| sB (.beq i1 (aV 12) (aV 8)) <| sI (aV 13) (sR tB [(.bool false)]) <| sB (.call 25 [(aR 0 [i1,i0])]) <| sB (.call 18 [(aV 9),(aV 14)]) <| sB (.not (aV 15)) <| sI (aV 16) (sR tB [(.bool false)]) <| sB (.call 25 [(aR 0 [i1,i1])]) <| sB (.call 18 [(aV 10),(aV 17)]) <| sB (.not (aV 18)) <| sI (aV 19) (sR tB [(.bool false)]) <| sR tB [(.bool true)]
noncomputable def fn4 (x : sg4.p.den) : Option sg4.r.den := st4.den [⟨sg24.key, sg24.p, sg24.r, fn24⟩, ⟨sg25.key, sg25.p, sg25.r, fn25⟩, ⟨sg23.key, sg23.p, sg23.r, fn23⟩, ⟨sg26.key, sg26.p, sg26.r, fn26⟩, ⟨sg18.key, sg18.p, sg18.r, fn18⟩] [] sg4.r [⟨sg4.p, x⟩]
theorem spec4 : CallSpec Try.prog sg4 fn4 := spec (ss := [sg24, sg25, sg23, sg26, sg18]) (an := an4) (stm := st4) follows (Specs.cons spec24 (Specs.cons spec25 (Specs.cons spec23 (Specs.cons spec26 (Specs.cons spec18 (Specs.nil) (by kernel_rfl)) (by kernel_rfl)) (by kernel_rfl)) (by kernel_rfl)) (by kernel_rfl)) (by kernel_rfl) (by kernel_rfl) (fun _ => rfl)
theorem eq4 : fn4 = Pf.laws_FnExactPlaceOk := by kernel_rfl
-- laws.FnExactNearestFree
def sg5 : Sig := ⟨5,5,[.val i1 (tP tI (tP tI (tP tI tI))),.val i0 tI,.val i0 tI,.val i0 tI,.val i0 (tS 3 tI)],[.val i0 tB i1]⟩
def an5 : Ann := ⟨42,[],[],[],[],[]⟩
def st5 : Stm := sB (.len (aR 0 [i1,i1,i1,i1])) <| sB (.cmp .gt i6 (aV 1) (aI 1048576)) <| sI (aV 2) (sR tB [(.bool true)]) <| sB (.call 24 [(aR 0 [i0,i0]),(aR 0 [i0,i1,i0]),(aR 0 [i0,i1,i1,i0]),(aR 0 [i0,i1,i1,i1])]) <| sB (.call 25 [(aR 0 [i1,i1,i1,i1])]) <| sB (.call 27 [(aR 3 [i0]),(aR 3 [i1,i0]),(aR 3 [i1,i1,i0]),(aR 3 [i1,i1,i1]),(aR 0 [i1,i0]),(aR 0 [i1,i1,i0]),(aR 0 [i1,i1,i1,i0]),(aV 4)]) <| sB (.call 25 [(aR 0 [i1,i1,i1,i1])]) <| sB (.call 24 [(aR 0 [i0,i0]),(aR 0 [i0,i1,i0]),(aR 0 [i0,i1,i1,i0]),(aR 0 [i0,i1,i1,i1])]) <| sB (.call 28 [(aR 7 [i0]),(aR 7 [i1,i0]),(aR 7 [i1,i1,i0]),(aR 7 [i1,i1,i1]),(aR 0 [i1,i0]),(aR 0 [i1,i1,i0]),(aR 0 [i1,i1,i1,i0]),(aV 6)]) <| sB (.cmp .ne i6 (aV 8) (aV 5)) <| sI (aV 9) (sR tB [(.bool false)]) <| sB (.call 25 [(aR 0 [i1,i1,i1,i1])]) <| sB (.call 18 [(aV 6),(aV 10)]) <| sB (.not (aV 11)) <| sI (aV 12) (sR tB [(.bool false)]) <| sR tB [(.bool true)]
noncomputable def fn5 (x : sg5.p.den) : Option sg5.r.den := st5.den [⟨sg24.key, sg24.p, sg24.r, fn24⟩, ⟨sg25.key, sg25.p, sg25.r, fn25⟩, ⟨sg27.key, sg27.p, sg27.r, fn27⟩, ⟨sg28.key, sg28.p, sg28.r, fn28⟩, ⟨sg18.key, sg18.p, sg18.r, fn18⟩] [] sg5.r [⟨sg5.p, x⟩]
theorem spec5 : CallSpec Try.prog sg5 fn5 := spec (ss := [sg24, sg25, sg27, sg28, sg18]) (an := an5) (stm := st5) follows (Specs.cons spec24 (Specs.cons spec25 (Specs.cons spec27 (Specs.cons spec28 (Specs.cons spec18 (Specs.nil) (by kernel_rfl)) (by kernel_rfl)) (by kernel_rfl)) (by kernel_rfl)) (by kernel_rfl)) (by kernel_rfl) (by kernel_rfl) (fun _ => rfl)
theorem eq5 : fn5 = Pf.laws_FnExactNearestFree := by kernel_rfl
-- impl.TryMove
def sg40 : Sig := ⟨40,40,[.val i1 (tP tI (tP tI (tP tI tI))),.val i0 (tS 3 tI),.val i0 (tS 3 tI),.val i0 tI,.val i0 tI],[.val i0 (tS 3 tI) i0,.val i0 tB i0]⟩
def an40 : Ann := ⟨42,[(1,[0,1,2,3,4,5,6,7,8,9,10,11,12,13,14,15,17,18,19,20,16,21,22,23])],[],[],[],[]⟩
def st40 : Stm := sB (.call 26 [(aR 0 [i0,i0]),(aR 0 [i0,i1,i0]),(aR 0 [i0,i1,i1,i0]),(aR 0 [i0,i1,i1,i1]),(aR 0 [i1,i0]),(aR 0 [i1,i1,i0])]) <| sB (.not (aV 1)) <| sI (aV 2) (sB (.call 78 [(aR 0 [i1,i1,i0])]) <| sR (tP (tS 3 tI) tB) [(aV 3),(.bool false)]) <| sB (.len (aR 0 [i1,i0])) <| sB (.bin .sub i6 (aV 3) (aI 1)) <| sB (.call 60 [(aR 0 [i1,i1,i1,i0]),(aI 0),(aV 4)]) <| sB (.not (aV 5)) <| sI (aV 6) (sB (.call 78 [(aR 0 [i1,i1,i0])]) <| sR (tP (tS 3 tI) tB) [(aV 7),(.bool false)]) <| sB (.get (aR 0 [i1,i0]) (aR 0 [i1,i1,i1,i0])) <| sB (.call 45 [(aR 0 [i0,i0]),(aR 0 [i0,i1,i0]),(aR 0 [i0,i1,i1,i0]),(aR 0 [i0,i1,i1,i1]),(aR 0 [i1,i1,i1,i1])]) <| sB (.call 65 [(aV 7)]) <| sB (.cmp .ne i6 (aV 8) (aV 9)) <| sI (aV 10) (sB (.call 78 [(aR 0 [i1,i1,i0])]) <| sR (tP (tS 3 tI) tB) [(aV 11),(.bool false)]) <| sB (.call 79 [(aR 0 [i1,i1,i0]),(aR 0 [i1,i1,i1,i0]),(aR 0 [i1,i1,i1,i1])]) <| sR (tP (tS 3 tI) tB) [(aV 11),(.bool true)]
noncomputable def fn40 (x : sg40.p.den) : Option sg40.r.den := st40.den [⟨sg26.key, sg26.p, sg26.r, fn26⟩, ⟨sg78.key, sg78.p, sg78.r, fn78⟩, ⟨sg60.key, sg60.p, sg60.r, fn60⟩, ⟨sg45.key, sg45.p, sg45.r, fn45⟩, ⟨sg65.key, sg65.p, sg65.r, fn65⟩, ⟨sg79.key, sg79.p, sg79.r, fn79⟩] [] sg40.r [⟨sg40.p, x⟩]
theorem spec40 : CallSpec Try.prog sg40 fn40 := spec (ss := [sg26, sg78, sg60, sg45, sg65, sg79]) (an := an40) (stm := st40) follows (Specs.cons spec26 (Specs.cons spec78 (Specs.cons spec60 (Specs.cons spec45 (Specs.cons spec65 (Specs.cons spec79 (Specs.nil) (by kernel_rfl)) (by kernel_rfl)) (by kernel_rfl)) (by kernel_rfl)) (by kernel_rfl)) (by kernel_rfl)) (by kernel_rfl) (by kernel_rfl) (fun _ => rfl)
theorem eq40 : fn40 = Pf.impl_TryMove := by kernel_rfl
-- laws.FnExactTryMove
def sg8 : Sig := ⟨8,8,[.val i1 (tP tI (tP tI (tP tI tI))),.val i0 (tS 3 tI),.val i0 (tS 3 tI),.val i0 tI,.val i0 tI],[.val i0 tB i1]⟩
def an8 : Ann := ⟨132,[],[],[],[],[]⟩
def st8 : Stm := sB (.len (aR 0 [i1,i0])) <| sB (.cmp .gt i6 (aV 1) (aI 1048576)) <| sI (aV 2) (sR tB [(.bool true)]) <| sB (.len (aR 0 [i1,i1,i0])) <| sB (.cmp .gt i6 (aV 3) (aI 1048576)) <| sI (aV 4) (sR tB [(.bool true)]) <| sB (.call 24 [(aR 0 [i0,i0]),(aR 0 [i0,i1,i0]),(aR 0 [i0,i1,i1,i0]),(aR 0 [i0,i1,i1,i1])]) <| sB (.call 25 [(aR 0 [i1,i0])]) <| sB (.call 25 [(aR 0 [i1,i1,i0])]) <| sB (.call 39 [(aR 5 [i0]),(aR 5 [i1,i0]),(aR 5 [i1,i1,i0]),(aR 5 [i1,i1,i1]),(aV 6),(aV 7),(aR 0 [i1,i1,i1,i0]),(aR 0 [i1,i1,i1,i1])]) <| sB (.call 25 [(aR 0 [i1,i0])]) <| sB (.call 25 [(aR 0 [i1,i1,i0])]) <| sB (.call 24 [(aR 0 [i0,i0]),(aR 0 [i0,i1,i0]),(aR 0 [i0,i1,i1,i0]),(aR 0 [i0,i1,i1,i1])]) <| sB (.call 40 [(aR 11 [i0]),(aR 11 [i1,i0]),(aR 11 [i1,i1,i0]),(aR 11 [i1,i1,i1]),(aV 9),(aV 10),(aR 0 [i1,i1,i1,i0]),(aR 0 [i1,i1,i1,i1])]) <| sB (.call 18 [(aR 12 [i0]),(aR 8 [i0])]) <| sB (.not (aV 13)) <| sI (aV 14) (sR tB [(.bool false)]) <| sB (.beq i1 (aR 12 [i1]) (aR 8 [i1])) <| sI (aV 15) (sR tB [(.bool false)]) <| sB (.call 25 [(aR 0 [i1,i0])]) <| sB (.call 18 [(aV 9),(aV 16)]) <| sB (.not (aV 17)) <| sI (aV 18) (sR tB [(.bool false)]) <| sB (.call 25 [(aR 0 [i1,i1,i0])]) <| sB (.call 18 [(aV 10),(aV 19)]) <| sB (.not (aV 20)) <| sI (aV 21) (sR tB [(.bool false)]) <| sB (.call 21 [(aV 9),(aI 1)]) <| sB (.call 21 [(aV 10),(aR 22 [i0])]) <| sB (.cmp .lt i6 (aR 23 [i0]) (aI 0)) <| sI (aV 24) (sR tB [(.bool false)]) <| sB (.call 18 [(aR 12 [i0]),(aR 8 [i0])]) <| sB (.not (aV 25)) <| sI (aV 26) (sR tB [(.bool false)]) <| sB (.beq i1 (aR 12 [i1]) (aR 8 [i1])) <| sI (aV 27) (sR tB [(.bool false)]) <| sB (.call 21 [(aR 12 [i0]),(aI 1)]) <| sB (.call 22 [(aR 28 [i1]),(aI 1)]) <| sB (.cmp .lt i6 (aV 29) (aI 0)) <| sI (aV 30) (sR tB [(.bool false)]) <| sB (.cmp .ne i6 (aV 29) (aR 28 [i0])) <| sI (aV 31) (sR tB [(.bool false)]) <| sB (.call 24 [(aR 0 [i0,i0]),(aR 0 [i0,i1,i0]),(aR 0 [i0,i1,i1,i0]),(aR 0 [i0,i1,i1,i1])]) <| sB (.call 25 [(aR 0 [i1,i0])]) <| sB (.call 25 [(aR 0 [i1,i1,i0])]) <| sB (.call 40 [(aR 32 [i0]),(aR 32 [i1,i0]),(aR 32 [i1,i1,i0]),(aR 32 [i1,i1,i1]),(aV 33),(aV 34),(aR 0 [i1,i1,i1,i0]),(aR 0 [i1,i1,i1,i1])]) <| sB (.call 18 [(aR 35 [i0]),(aR 8 [i0])]) <| sB (.not (aV 36)) <| sI (aV 37) (sR tB [(.bool false)]) <| sB (.beq i1 (aR 35 [i1]) (aR 8 [i1])) <| sI (aV 38) (sR tB [(.bool false)]) <| sB (.call 22 [(aR 28 [i1]),(aI 1)]) <| sB (.cmp .lt i6 (aV 39) (aI 0)) <| sI (aV 40) (sR tB [(.bool false)]) <| sB (.cmp .ne i6 (aV 39) (aR 28 [i0])) <| sI (aV 41) (sR tB [(.bool false)]) <| sR tB [(.bool true)]
noncomputable def fn8 (x : sg8.p.den) : Option sg8.r.den := st8.den [⟨sg24.key, sg24.p, sg24.r, fn24⟩, ⟨sg25.key, sg25.p, sg25.r, fn25⟩, ⟨sg39.key, sg39.p, sg39.r, fn39⟩, ⟨sg40.key, sg40.p, sg40.r, fn40⟩, ⟨sg18.key, sg18.p, sg18.r, fn18⟩, ⟨sg21.key, sg21.p, sg21.r, fn21⟩, ⟨sg22.key, sg22.p, sg22.r, fn22⟩] [] sg8.r [⟨sg8.p, x⟩]
theorem spec8 : CallSpec Try.prog sg8 fn8 := spec (ss := [sg24, sg25, sg39, sg40, sg18, sg21, sg22]) (an := an8) (stm := st8) follows (Specs.cons spec24 (Specs.cons spec25 (Specs.cons spec39 (Specs.cons spec40 (Specs.cons spec18 (Specs.cons spec21 (Specs.cons spec22 (Specs.nil) (by kernel_rfl)) (by kernel_rfl)) (by kernel_rfl)) (by kernel_rfl)) (by kernel_rfl)) (by kernel_rfl)) (by kernel_rfl)) (by kernel_rfl) (by kernel_rfl) (fun _ => rfl)
theorem eq8 : fn8 = Pf.laws_FnExactTryMove := by kernel_rfl
end Go.Proofs.Ytamaghlnjchhbaa
