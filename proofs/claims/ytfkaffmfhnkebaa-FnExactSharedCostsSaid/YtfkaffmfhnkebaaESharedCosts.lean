/-
  Own work, printed by my tool: signatures, annotations and the compiled statements of the functions that the law reaches; each one's contract.
-/
import Derived.Test.YtfkaffmfhnkebaaD
import Derived.Test.YtfkaffmfhnkebaaProg
namespace Go.Proofs.Ytfkaffmfhnkebaa
open Go Go.Pu Go.Proofs
theorem follows : Try.prog.follows .mixedOrders = true := by kernel_rfl
-- laws.toDevice
def sg26 : Sig := ⟨26,26,[.val i1 (tP tI (tP tI (tP tI tI)))],[.val i1 (tP tI (tP tI (tP tI tI))) i1]⟩
def an26 : Ann := ⟨17,[],[],[],[],[]⟩
def st26 : Stm := sR (tP tI (tP tI (tP tI tI))) [(aR 0 [i0]),(aR 0 [i1,i0]),(aR 0 [i1,i1,i0]),(aR 0 [i1,i1,i1])]
noncomputable def fn26 (x : sg26.p.den) : Option sg26.r.den := st26.den [] [] sg26.r [⟨sg26.p, x⟩]
theorem spec26 : CallSpec Try.prog sg26 fn26 := spec (ss := []) (an := an26) (stm := st26) follows (Specs.nil) (by kernel_rfl) (by kernel_rfl) (fun _ => rfl)
theorem eq26 : fn26 = Pf.laws_toDevice := by kernel_rfl
-- laws.toIntS
def sg32 : Sig := ⟨32,32,[.val i0 (tS 3 tI)],[.val i0 (tS 3 tI) i0]⟩
def an32 : Ann := ⟨22,[],[],[(0,(tP tI (tS 3 tI)),[(0,(.c (.s none (aV 0)))),(3,(.c (.h 0))),(4,(sW (aR 3 [i0])))],[(.list 3 tI (aR 3 [i1]) i0 none)])],[],[]⟩
def st32 : Stm := sB (.len (aV 0)) <| sB (.make 8 3 tI (aV 1)) <| sL (tP tI (tS 3 tI)) [(aI 0),(aV 2)] <| sB (.len (aV 0)) <| sB (.cmp .lt i6 (aR 3 [i0]) (aV 4)) <| sI (aV 5) (sB (.get (aV 0) (aR 3 [i0])) <| sB (.idx (aR 3 [i1]) (aR 3 [i0])) <| sB (.get (aR 3 [i1]) (aR 3 [i0])) <| sB (.mk tI [(aV 6)]) <| sB (.set (aR 3 [i1]) (aR 3 [i0]) (aV 9)) <| sB (.bin .add i6 (aR 3 [i0]) (aI 1)) <| sN (tP tI (tS 3 tI)) [(aV 11),(aV 10)]) <| sU <| sR (tS 3 tI) [(aR 3 [i1])]
noncomputable def fn32 (x : sg32.p.den) : Option sg32.r.den := st32.den [] [] sg32.r [⟨sg32.p, x⟩]
theorem spec32 : CallSpec Try.prog sg32 fn32 := spec (ss := []) (an := an32) (stm := st32) follows (Specs.nil) (by kernel_rfl) (by kernel_rfl) (fun _ => rfl)
theorem eq32 : fn32 = Pf.laws_toIntS := by kernel_rfl
-- laws.eqIntS
def sg35 : Sig := ⟨35,35,[.val i0 (tS 3 tI),.val i0 (tS 3 tI)],[.val i0 tB i1]⟩
def an35 : Ann := ⟨26,[(6,[0,1,2,3,4,5,6,7,8])],[],[(0,tI,[(0,(.c (.s none (aR 0 [i0])))),(1,(.c (.s none (aR 0 [i1])))),(5,(sW (aV 4)))],[])],[],[]⟩
def st35 : Stm := sB (.len (aR 0 [i0])) <| sB (.len (aR 0 [i1])) <| sB (.cmp .ne i6 (aV 1) (aV 2)) <| sI (aV 3) (sR tB [(.bool false)]) <| sL tI [(aI 0)] <| sB (.len (aR 0 [i0])) <| sB (.cmp .lt i6 (aV 4) (aV 5)) <| sI (aV 6) (sB (.get (aR 0 [i0]) (aV 4)) <| sB (.get (aR 0 [i1]) (aV 4)) <| sB (.cmp .ne i6 (aV 7) (aV 8)) <| sI (aV 9) (sU <| sR tB [(.bool false)]) <| sB (.bin .add i6 (aV 4) (aI 1)) <| sN tI [(aV 10)]) <| sU <| sR tB [(.bool true)]
noncomputable def fn35 (x : sg35.p.den) : Option sg35.r.den := st35.den [] [] sg35.r [⟨sg35.p, x⟩]
theorem spec35 : CallSpec Try.prog sg35 fn35 := spec (ss := []) (an := an35) (stm := st35) follows (Specs.nil) (by kernel_rfl) (by kernel_rfl) (fun _ => rfl)
theorem eq35 : fn35 = Pf.laws_eqIntS := by kernel_rfl
-- laws.markIntS
def sg39 : Sig := ⟨39,39,[.own i0 (tS 3 tI) i1,.val i0 tI],[.val i0 tI i1]⟩
def an39 : Ann := ⟨19,[],[],[(0,(tP tI (tP tI (tS 3 tI))),[(0,(.c (.h 0))),(1,(sW (aR 1 [i0]))),(5,(sW (aR 1 [i1,i0])))],[(.list 3 tI (aR 1 [i1,i1]) i0 none)])],[],[]⟩
def st39 : Stm := sL (tP tI (tP tI (tS 3 tI))) [(aR 0 [i1]),(aI 0),(aR 0 [i0])] <| sB (.len (aR 1 [i1,i1])) <| sB (.cmp .lt i6 (aR 1 [i1,i0]) (aV 2)) <| sI (aV 3) (sB (.idx (aR 1 [i1,i1]) (aR 1 [i1,i0])) <| sB (.get (aR 1 [i1,i1]) (aR 1 [i1,i0])) <| sB (.mk tI [(aR 1 [i0])]) <| sB (.set (aR 1 [i1,i1]) (aR 1 [i1,i0]) (aV 6)) <| sB (.bin .add i6 (aR 1 [i0]) (aI 1)) <| sB (.bin .add i6 (aR 1 [i1,i0]) (aI 1)) <| sN (tP tI (tP tI (tS 3 tI))) [(aV 8),(aV 9),(aV 7)]) <| sU <| sR (tP tI (tS 3 tI)) [(aR 1 [i0]),(aR 1 [i1,i1])]
noncomputable def fn39 (x : sg39.p.den) : Option sg39.r.den := st39.den [] [] sg39.r [⟨sg39.p, x⟩]
theorem spec39 : CallSpec Try.prog sg39 fn39 := spec (ss := []) (an := an39) (stm := st39) follows (Specs.nil) (by kernel_rfl) (by kernel_rfl) (fun _ => rfl)
theorem eq39 : fn39 = Pf.laws_markIntS := by kernel_rfl
-- laws.heldIntS
def sg40 : Sig := ⟨40,40,[.val i0 (tS 3 tI),.val i0 tI],[.val i0 tI i1]⟩
def an40 : Ann := ⟨21,[],[],[(0,(tP tI tI),[(0,(.c (.s none (aR 0 [i0])))),(1,(sW (aR 1 [i0]))),(5,(sW (aR 1 [i1])))],[])],[],[]⟩
def st40 : Stm := sL (tP tI tI) [(aR 0 [i1]),(aI 0)] <| sB (.len (aR 0 [i0])) <| sB (.cmp .lt i6 (aR 1 [i1]) (aV 2)) <| sI (aV 3) (sB (.get (aR 0 [i0]) (aR 1 [i1])) <| sB (.cmp .ne i6 (aV 4) (aR 1 [i0])) <| sI (aV 5) (sU <| sR tI [(aI (-1))]) <| sB (.bin .add i6 (aR 1 [i0]) (aI 1)) <| sB (.bin .add i6 (aR 1 [i1]) (aI 1)) <| sN (tP tI tI) [(aV 6),(aV 7)]) <| sU <| sR tI [(aR 1 [i0])]
noncomputable def fn40 (x : sg40.p.den) : Option sg40.r.den := st40.den [] [] sg40.r [⟨sg40.p, x⟩]
theorem spec40 : CallSpec Try.prog sg40 fn40 := spec (ss := []) (an := an40) (stm := st40) follows (Specs.nil) (by kernel_rfl) (by kernel_rfl) (fun _ => rfl)
theorem eq40 : fn40 = Pf.laws_heldIntS := by kernel_rfl
-- spec.l27Per
def sg93 : Sig := ⟨93,93,[.val i1 (tP tI (tP tI (tP tI tI)))],[.val i0 tI i1]⟩
def an93 : Ann := ⟨7,[],[],[],[],[]⟩
def st93 : Stm := sB (.bin .mul i6 (aI 4) (aR 0 [i1,i1,i0])) <| sB (.bin .add i6 (aI 7) (aV 1)) <| sR tI [(aV 2)]
noncomputable def fn93 (x : sg93.p.den) : Option sg93.r.den := st93.den [] [] sg93.r [⟨sg93.p, x⟩]
theorem spec93 : CallSpec Try.prog sg93 fn93 := spec (ss := []) (an := an93) (stm := st93) follows (Specs.nil) (by kernel_rfl) (by kernel_rfl) (fun _ => rfl)
theorem eq93 : fn93 = Pf.spec_l27Per := by kernel_rfl
-- impl.inRange
def sg100 : Sig := ⟨100,100,[.val i0 tI,.val i0 tI,.val i0 tI],[.val i0 tB i1]⟩
def an100 : Ann := ⟨15,[],[],[],[],[]⟩
def st100 : Stm := sB (.cmp .ge i6 (aR 0 [i0]) (aR 0 [i1,i0])) <| sI (aV 1) (sB (.cmp .le i6 (aR 0 [i0]) (aR 0 [i1,i1])) <| sR tB [(aV 2)]) <| sR tB [(.bool false)]
noncomputable def fn100 (x : sg100.p.den) : Option sg100.r.den := st100.den [] [] sg100.r [⟨sg100.p, x⟩]
theorem spec100 : CallSpec Try.prog sg100 fn100 := spec (ss := []) (an := an100) (stm := st100) follows (Specs.nil) (by kernel_rfl) (by kernel_rfl) (fun _ => rfl)
theorem eq100 : fn100 = Pf.impl_inRange := by kernel_rfl
-- laws.szIntS
def sg119 : Sig := ⟨119,119,[.val i0 (tS 3 tI),.val i0 tI],[.val i0 tI i1]⟩
def an119 : Ann := ⟨12,[],[],[],[],[]⟩
def st119 : Stm := sB (.len (aR 0 [i0])) <| sB (.bin .sub i6 (aR 0 [i1]) (aV 1)) <| sB (.cmp .lt i6 (aV 2) (aI 0)) <| sI (aV 3) (sR tI [(aI (-1))]) <| sR tI [(aV 2)]
noncomputable def fn119 (x : sg119.p.den) : Option sg119.r.den := st119.den [] [] sg119.r [⟨sg119.p, x⟩]
theorem spec119 : CallSpec Try.prog sg119 fn119 := spec (ss := []) (an := an119) (stm := st119) follows (Specs.nil) (by kernel_rfl) (by kernel_rfl) (fun _ => rfl)
theorem eq119 : fn119 = Pf.laws_szIntS := by kernel_rfl
-- spec.l34Load
def sg121 : Sig := ⟨121,121,[.val i0 tI,.val i0 (tS 53 (tP (tS 3 tI) (tS 3 tI))),.val i0 tI],[.val i0 (tS 3 tI) i0]⟩
def an121 : Ann := ⟨67,[],[],[(2,(tP tI (tP (tS 3 tI) (tS 4 tB))),[(0,(sW (aR 0 [i0]))),(1,(.c (.s none (aR 0 [i1,i0])))),(2,(sW (aR 0 [i1,i1]))),(7,(.c (.h 0))),(8,(sW (aR 2 [i0]))),(9,(.c (.h 1))),(10,(sW (aR 7 [i0])))],[(.list 3 tI (aR 7 [i1,i0]) i0 none),(.list 4 tB (aR 7 [i1,i1]) i0 none)]),(0,(tP tI (tS 3 tI)),[(0,(sW (aR 0 [i0]))),(1,(.c (.s none (aR 0 [i1,i0])))),(2,(sW (aR 0 [i1,i1]))),(7,(.c (.h 0))),(8,(sW (aR 2 [i0])))],[(.list 3 tI (aR 2 [i1]) i0 none)])],[],[]⟩
def st121 : Stm := sB (.make 8 3 tI (aR 0 [i0])) <| sL (tP tI (tS 3 tI)) [(aI 0),(aV 1)] <| sB (.len (aR 0 [i1,i0])) <| sB (.cmp .lt i6 (aR 2 [i0]) (aV 3)) <| sI (aV 4) (sB (.cmp .eq i6 (aR 2 [i0]) (aR 0 [i1,i1])) <| sI (aV 5) (sB (.bin .add i6 (aR 2 [i0]) (aI 1)) <| sN (tP tI (tS 3 tI)) [(aV 6),(aR 2 [i1])]) <| sB (.make 1 4 tB (aR 0 [i0])) <| sL (tP tI (tP (tS 3 tI) (tS 4 tB))) [(aI 0),(aR 2 [i1]),(aV 6)] <| sB (.get (aR 0 [i1,i0]) (aR 2 [i0])) <| sB (.len (aR 8 [i0])) <| sB (.cmp .lt i6 (aR 7 [i0]) (aV 9)) <| sI (aV 10) (sB (.get (aR 0 [i1,i0]) (aR 2 [i0])) <| sB (.get (aR 11 [i0]) (aR 7 [i0])) <| sB (.cmp .ge i6 (aV 12) (aI 0)) <| sI (aV 13) (sB (.cmp .lt i6 (aV 12) (aR 0 [i0])) <| sI (aV 14) (sB (.idx (aR 7 [i1,i1]) (aV 12)) <| sB (.get (aR 7 [i1,i1]) (aV 12)) <| sB (.not (aV 16)) <| sI (aV 17) (sB (.idx (aR 7 [i1,i1]) (aV 12)) <| sB (.get (aR 7 [i1,i1]) (aV 12)) <| sB (.mk tB [(.bool true)]) <| sB (.set (aR 7 [i1,i1]) (aV 12) (aV 20)) <| sB (.idx (aR 7 [i1,i0]) (aV 12)) <| sB (.get (aR 7 [i1,i0]) (aV 12)) <| sB (.bin .add i6 (aV 23) (aI 1)) <| sB (.idx (aR 7 [i1,i0]) (aV 12)) <| sB (.get (aR 7 [i1,i0]) (aV 12)) <| sB (.mk tI [(aV 24)]) <| sB (.set (aR 7 [i1,i0]) (aV 12) (aV 27)) <| sB (.bin .add i6 (aR 7 [i0]) (aI 1)) <| sN (tP tI (tP (tS 3 tI) (tS 4 tB))) [(aV 29),(aV 28),(aV 21)]) <| sB (.bin .add i6 (aR 7 [i0]) (aI 1)) <| sN (tP tI (tP (tS 3 tI) (tS 4 tB))) [(aV 18),(aR 7 [i1,i0]),(aR 7 [i1,i1])]) <| sB (.bin .add i6 (aR 7 [i0]) (aI 1)) <| sN (tP tI (tP (tS 3 tI) (tS 4 tB))) [(aV 15),(aR 7 [i1,i0]),(aR 7 [i1,i1])]) <| sB (.bin .add i6 (aR 7 [i0]) (aI 1)) <| sN (tP tI (tP (tS 3 tI) (tS 4 tB))) [(aV 14),(aR 7 [i1,i0]),(aR 7 [i1,i1])]) <| sU <| sB (.bin .add i6 (aR 2 [i0]) (aI 1)) <| sN (tP tI (tS 3 tI)) [(aV 11),(aR 7 [i1,i0])]) <| sU <| sR (tS 3 tI) [(aR 2 [i1])]
noncomputable def fn121 (x : sg121.p.den) : Option sg121.r.den := st121.den [] [] sg121.r [⟨sg121.p, x⟩]
theorem spec121 : CallSpec Try.prog sg121 fn121 := spec (ss := []) (an := an121) (stm := st121) follows (Specs.nil) (by kernel_rfl) (by kernel_rfl) (fun _ => rfl)
theorem eq121 : fn121 = Pf.spec_l34Load := by kernel_rfl
-- spec.l01In
def sg125 : Sig := ⟨125,125,[.val i0 tI,.val i0 tI,.val i0 tI],[.val i0 tB i1]⟩
def an125 : Ann := ⟨15,[],[],[],[],[]⟩
def st125 : Stm := sB (.cmp .ge i6 (aR 0 [i0]) (aR 0 [i1,i0])) <| sI (aV 1) (sB (.cmp .le i6 (aR 0 [i0]) (aR 0 [i1,i1])) <| sR tB [(aV 2)]) <| sR tB [(.bool false)]
noncomputable def fn125 (x : sg125.p.den) : Option sg125.r.den := st125.den [] [] sg125.r [⟨sg125.p, x⟩]
theorem spec125 : CallSpec Try.prog sg125 fn125 := spec (ss := []) (an := an125) (stm := st125) follows (Specs.nil) (by kernel_rfl) (by kernel_rfl) (fun _ => rfl)
theorem eq125 : fn125 = Pf.spec_l01In := by kernel_rfl
-- spec.l34Costs
def sg126 : Sig := ⟨126,126,[.val i0 (tS 3 tI),.val i0 (tS 3 tI),.val i0 tI],[.val i0 (tS 3 tI) i0]⟩
def an126 : Ann := ⟨33,[(5,[0,1,2,3,4,5,6,7,8,9,10,11,12,13,14,15,16])],[],[(0,(tP tI (tS 3 tI)),[(0,(.c (.s none (aR 0 [i0])))),(1,(.c (.s none (aR 0 [i1,i0])))),(2,(sW (aR 0 [i1,i1]))),(7,(.c (.h 0))),(8,(sW (aR 1 [i0])))],[(.list 3 tI (aR 1 [i1]) i0 none)])],[],[]⟩
def st126 : Stm := sL (tP tI (tS 3 tI)) [(aI 0),(.nil (tS 3 tI))] <| sB (.len (aR 0 [i1,i0])) <| sB (.cmp .lt i6 (aR 1 [i0]) (aV 2)) <| sI (aV 3) (sB (.get (aR 0 [i0]) (aR 1 [i0])) <| sB (.bin .add i6 (aI 10) (aV 4)) <| sB (.get (aR 0 [i1,i0]) (aR 1 [i0])) <| sB (.bin .mul i6 (aR 0 [i1,i1]) (aV 6)) <| sB (.bin .add i6 (aV 5) (aV 7)) <| sB (.min i6 (aI 100000) (aV 8)) <| sB (.lst 3 tI [[(aV 9)]]) <| sB (.app 8 (aR 1 [i1]) (aV 10)) <| sB (.bin .add i6 (aR 1 [i0]) (aI 1)) <| sN (tP tI (tS 3 tI)) [(aV 12),(aV 11)]) <| sU <| sR (tS 3 tI) [(aR 1 [i1])]
noncomputable def fn126 (x : sg126.p.den) : Option sg126.r.den := st126.den [] [] sg126.r [⟨sg126.p, x⟩]
theorem spec126 : CallSpec Try.prog sg126 fn126 := spec (ss := []) (an := an126) (stm := st126) follows (Specs.nil) (by kernel_rfl) (by kernel_rfl) (fun _ => rfl)
theorem eq126 : fn126 = Pf.spec_l34Costs := by kernel_rfl
-- impl.sharedCosts
def sg127 : Sig := ⟨127,127,[.val i0 (tS 3 tI),.val i0 (tS 3 tI),.val i0 tI],[.val i0 (tS 3 tI) i1]⟩
def an127 : Ann := ⟨32,[],[],[(0,(tP (tS 3 tI) tI),[(1,(.c (.s none (aR 0 [i1,i0])))),(2,(sW (aR 0 [i1,i1]))),(7,(.c (.h 0))),(10,(.c (.s none (aR 0 [i0])))),(11,(sW (aV 1))),(12,(sW (aR 2 [i1])))],[(.list 3 tI (aR 2 [i0]) i1 none)])],[],[]⟩
def st127 : Stm := sB (.len (aR 0 [i0])) <| sL (tP (tS 3 tI) tI) [(.nil (tS 3 tI)),(aI 0)] <| sB (.cmp .lt i6 (aR 2 [i1]) (aV 1)) <| sI (aV 3) (sB (.get (aR 0 [i0]) (aR 2 [i1])) <| sB (.bin .add i6 (aI 10) (aV 4)) <| sB (.get (aR 0 [i1,i0]) (aR 2 [i1])) <| sB (.bin .mul i6 (aR 0 [i1,i1]) (aV 6)) <| sB (.bin .add i6 (aV 5) (aV 7)) <| sB (.min i6 (aI 100000) (aV 8)) <| sB (.lst 3 tI [[(aV 9)]]) <| sB (.app 8 (aR 2 [i0]) (aV 10)) <| sB (.bin .add i6 (aR 2 [i1]) (aI 1)) <| sN (tP (tS 3 tI) tI) [(aV 11),(aV 12)]) <| sU <| sR (tS 3 tI) [(aR 2 [i0])]
noncomputable def fn127 (x : sg127.p.den) : Option sg127.r.den := st127.den [] [] sg127.r [⟨sg127.p, x⟩]
theorem spec127 : CallSpec Try.prog sg127 fn127 := spec (ss := []) (an := an127) (stm := st127) follows (Specs.nil) (by kernel_rfl) (by kernel_rfl) (fun _ => rfl)
theorem eq127 : fn127 = Pf.impl_sharedCosts := by kernel_rfl
-- impl.perTile
def sg160 : Sig := ⟨160,160,[.val i1 (tP tI (tP tI (tP tI tI)))],[.val i0 tI i1]⟩
def an160 : Ann := ⟨7,[],[],[],[],[]⟩
def st160 : Stm := sB (.bin .mul i6 (aI 4) (aR 0 [i1,i1,i0])) <| sB (.bin .add i6 (aI 7) (aV 1)) <| sR tI [(aV 2)]
noncomputable def fn160 (x : sg160.p.den) : Option sg160.r.den := st160.den [] [] sg160.r [⟨sg160.p, x⟩]
theorem spec160 : CallSpec Try.prog sg160 fn160 := spec (ss := []) (an := an160) (stm := st160) follows (Specs.nil) (by kernel_rfl) (by kernel_rfl) (fun _ => rfl)
theorem eq160 : fn160 = Pf.impl_perTile := by kernel_rfl
-- laws.szRoute
def sg44 : Sig := ⟨44,44,[.val i1 (tP (tS 3 tI) (tS 3 tI)),.val i0 tI],[.val i0 tI i1]⟩
def an44 : Ann := ⟨18,[],[],[],[],[]⟩
def st44 : Stm := sB (.call 119 [(aR 0 [i0,i0]),(aR 0 [i1])]) <| sB (.cmp .lt i6 (aV 1) (aI 0)) <| sI (aV 2) (sR tI [(aI (-1))]) <| sB (.call 119 [(aR 0 [i0,i1]),(aV 1)]) <| sB (.cmp .lt i6 (aV 3) (aI 0)) <| sI (aV 4) (sR tI [(aI (-1))]) <| sR tI [(aV 3)]
noncomputable def fn44 (x : sg44.p.den) : Option sg44.r.den := st44.den [⟨sg119.key, sg119.p, sg119.r, fn119⟩] [] sg44.r [⟨sg44.p, x⟩]
theorem spec44 : CallSpec Try.prog sg44 fn44 := spec (ss := [sg119]) (an := an44) (stm := st44) follows (Specs.cons spec119 (Specs.nil) (by kernel_rfl)) (by kernel_rfl) (by kernel_rfl) (fun _ => rfl)
theorem eq44 : fn44 = Pf.laws_szRoute := by kernel_rfl
-- laws.toRoute
def sg46 : Sig := ⟨46,46,[.val i1 (tP (tS 3 tI) (tS 3 tI))],[.val i1 (tP (tS 3 tI) (tS 3 tI)) i0]⟩
def an46 : Ann := ⟨13,[],[],[],[],[]⟩
def st46 : Stm := sB (.call 32 [(aR 0 [i0])]) <| sB (.call 32 [(aR 0 [i1])]) <| sR (tP (tS 3 tI) (tS 3 tI)) [(aV 1),(aV 2)]
noncomputable def fn46 (x : sg46.p.den) : Option sg46.r.den := st46.den [⟨sg32.key, sg32.p, sg32.r, fn32⟩] [] sg46.r [⟨sg46.p, x⟩]
theorem spec46 : CallSpec Try.prog sg46 fn46 := spec (ss := [sg32]) (an := an46) (stm := st46) follows (Specs.cons spec32 (Specs.nil) (by kernel_rfl)) (by kernel_rfl) (by kernel_rfl) (fun _ => rfl)
theorem eq46 : fn46 = Pf.laws_toRoute := by kernel_rfl
-- laws.eqRoute
def sg48 : Sig := ⟨48,48,[.val i1 (tP (tS 3 tI) (tS 3 tI)),.val i1 (tP (tS 3 tI) (tS 3 tI))],[.val i0 tB i1]⟩
def an48 : Ann := ⟨17,[],[],[],[],[]⟩
def st48 : Stm := sB (.call 35 [(aR 0 [i0,i0]),(aR 0 [i1,i0])]) <| sB (.not (aV 1)) <| sI (aV 2) (sR tB [(.bool false)]) <| sB (.call 35 [(aR 0 [i0,i1]),(aR 0 [i1,i1])]) <| sB (.not (aV 3)) <| sI (aV 4) (sR tB [(.bool false)]) <| sR tB [(.bool true)]
noncomputable def fn48 (x : sg48.p.den) : Option sg48.r.den := st48.den [⟨sg35.key, sg35.p, sg35.r, fn35⟩] [] sg48.r [⟨sg48.p, x⟩]
theorem spec48 : CallSpec Try.prog sg48 fn48 := spec (ss := [sg35]) (an := an48) (stm := st48) follows (Specs.cons spec35 (Specs.nil) (by kernel_rfl)) (by kernel_rfl) (by kernel_rfl) (fun _ => rfl)
theorem eq48 : fn48 = Pf.laws_eqRoute := by kernel_rfl
-- laws.markRouteS
def sg54 : Sig := ⟨54,54,[.own i0 (tS 53 (tP (tS 3 tI) (tS 3 tI))) i1,.val i0 tI],[.val i0 tI i1]⟩
def an54 : Ann := ⟨27,[],[],[(0,(tP tI (tP tI (tS 53 (tP (tS 3 tI) (tS 3 tI))))),[(0,(.c (.h 0))),(1,(sW (aR 1 [i0]))),(5,(sW (aR 1 [i1,i0])))],[(.list 53 (tP (tS 3 tI) (tS 3 tI)) (aR 1 [i1,i1]) i0 none)])],[],[]⟩
def st54 : Stm := sL (tP tI (tP tI (tS 53 (tP (tS 3 tI) (tS 3 tI))))) [(aR 0 [i1]),(aI 0),(aR 0 [i0])] <| sB (.len (aR 1 [i1,i1])) <| sB (.cmp .lt i6 (aR 1 [i1,i0]) (aV 2)) <| sI (aV 3) (sB (.idx (aR 1 [i1,i1]) (aR 1 [i1,i0])) <| sB (.get (aR 1 [i1,i1]) (aR 1 [i1,i0])) <| sB (.get (aR 1 [i1,i1]) (aR 1 [i1,i0])) <| sB (.call 39 [(aR 6 [i0]),(aR 1 [i0])]) <| sB (.get (aR 1 [i1,i1]) (aR 1 [i1,i0])) <| sB (.mk (tP (tS 3 tI) (tS 3 tI)) [(aR 7 [i1]),(aR 8 [i1])]) <| sB (.set (aR 1 [i1,i1]) (aR 1 [i1,i0]) (aV 9)) <| sB (.idx (aV 10) (aR 1 [i1,i0])) <| sB (.get (aV 10) (aR 1 [i1,i0])) <| sB (.get (aV 10) (aR 1 [i1,i0])) <| sB (.call 39 [(aR 13 [i1]),(aR 7 [i0])]) <| sB (.get (aV 10) (aR 1 [i1,i0])) <| sB (.mk (tP (tS 3 tI) (tS 3 tI)) [(aR 15 [i0]),(aR 14 [i1])]) <| sB (.set (aV 10) (aR 1 [i1,i0]) (aV 16)) <| sB (.bin .add i6 (aR 1 [i1,i0]) (aI 1)) <| sN (tP tI (tP tI (tS 53 (tP (tS 3 tI) (tS 3 tI))))) [(aR 14 [i0]),(aV 18),(aV 17)]) <| sU <| sR (tP tI (tS 53 (tP (tS 3 tI) (tS 3 tI)))) [(aR 1 [i0]),(aR 1 [i1,i1])]
noncomputable def fn54 (x : sg54.p.den) : Option sg54.r.den := st54.den [⟨sg39.key, sg39.p, sg39.r, fn39⟩] [] sg54.r [⟨sg54.p, x⟩]
theorem spec54 : CallSpec Try.prog sg54 fn54 := spec (ss := [sg39]) (an := an54) (stm := st54) follows (Specs.cons spec39 (Specs.nil) (by kernel_rfl)) (by kernel_rfl) (by kernel_rfl) (fun _ => rfl)
theorem eq54 : fn54 = Pf.laws_markRouteS := by kernel_rfl
-- impl.DeviceOk
def sg99 : Sig := ⟨99,99,[.val i1 (tP tI (tP tI (tP tI tI)))],[.val i0 tB i1]⟩
def an99 : Ann := ⟨29,[],[],[],[],[]⟩
def st99 : Stm := sB (.call 100 [(aR 0 [i0]),(aI 3),(aI 6)]) <| sI (aV 1) (sB (.call 100 [(aR 0 [i1,i0]),(aI 3),(aI 6)]) <| sI (aV 2) (sB (.call 100 [(aR 0 [i1,i1,i0]),(aI 1),(aI 4)]) <| sI (aV 3) (sB (.cmp .eq i6 (aR 0 [i1,i1,i1]) (aI (-1))) <| sI (aV 4) (sR tB [(.bool true)]) <| sB (.bin .sub i6 (aR 0 [i0]) (aI 2)) <| sB (.call 100 [(aR 0 [i1,i1,i1]),(aI 1),(aV 5)]) <| sR tB [(aV 6)]) <| sR tB [(.bool false)]) <| sR tB [(.bool false)]) <| sR tB [(.bool false)]
noncomputable def fn99 (x : sg99.p.den) : Option sg99.r.den := st99.den [⟨sg100.key, sg100.p, sg100.r, fn100⟩] [] sg99.r [⟨sg99.p, x⟩]
theorem spec99 : CallSpec Try.prog sg99 fn99 := spec (ss := [sg100]) (an := an99) (stm := st99) follows (Specs.cons spec100 (Specs.nil) (by kernel_rfl)) (by kernel_rfl) (by kernel_rfl) (fun _ => rfl)
theorem eq99 : fn99 = Pf.impl_DeviceOk := by kernel_rfl
-- impl.routeNodes
def sg101 : Sig := ⟨101,101,[.val i1 (tP tI (tP tI (tP tI tI)))],[.val i0 tI i1]⟩
def an101 : Ann := ⟨11,[(1,[0,1,2,3,4,5,6,7,8])],[],[],[],[]⟩
def st101 : Stm := sB (.bin .mul i6 (aR 0 [i0]) (aR 0 [i1,i0])) <| sB (.call 160 [(aR 0 [i0]),(aR 0 [i1,i0]),(aR 0 [i1,i1,i0]),(aR 0 [i1,i1,i1])]) <| sB (.bin .mul i6 (aV 1) (aV 2)) <| sR tI [(aV 3)]
noncomputable def fn101 (x : sg101.p.den) : Option sg101.r.den := st101.den [⟨sg160.key, sg160.p, sg160.r, fn160⟩] [] sg101.r [⟨sg101.p, x⟩]
theorem spec101 : CallSpec Try.prog sg101 fn101 := spec (ss := [sg160]) (an := an101) (stm := st101) follows (Specs.cons spec160 (Specs.nil) (by kernel_rfl)) (by kernel_rfl) (by kernel_rfl) (fun _ => rfl)
theorem eq101 : fn101 = Pf.impl_routeNodes := by kernel_rfl
-- impl.usage
def sg122 : Sig := ⟨122,122,[.val i0 tI,.val i0 (tS 53 (tP (tS 3 tI) (tS 3 tI)))],[.val i0 (tS 3 tI) i0]⟩
def an122 : Ann := ⟨48,[],[],[(2,(tP tI (tP (tS 3 tI) .mp)),[(0,(sW (aR 0 [i0]))),(5,(.c (.h 0))),(8,(.c (.h 2))),(13,(.c (.s none (aR 0 [i1])))),(14,(sW (aV 2))),(15,(sW (aR 3 [i0]))),(21,(.c (.s none (aR 5 [i0])))),(22,(sW (aV 6))),(23,(sW (aR 7 [i0])))],[(.list 3 tI (aR 7 [i1,i0]) i0 none),.dead,(.mp (aR 7 [i1,i1]))]),(0,(tP tI (tS 3 tI)),[(0,(sW (aR 0 [i0]))),(5,(.c (.h 0))),(13,(.c (.s none (aR 0 [i1])))),(14,(sW (aV 2))),(15,(sW (aR 3 [i0])))],[(.list 3 tI (aR 3 [i1]) i0 none)])],[],[]⟩
def st122 : Stm := sB (.make 8 3 tI (aR 0 [i0])) <| sB (.len (aR 0 [i1])) <| sL (tP tI (tS 3 tI)) [(aI 0),(aV 1)] <| sB (.cmp .lt i6 (aR 3 [i0]) (aV 2)) <| sI (aV 4) (sB (.get (aR 0 [i1]) (aR 3 [i0])) <| sB (.len (aR 5 [i0])) <| sL (tP tI (tP (tS 3 tI) .mp)) [(aI 0),(aR 3 [i1]),(.nil .mp)] <| sB (.cmp .lt i6 (aR 7 [i0]) (aV 6)) <| sI (aV 8) (sB (.get (aR 5 [i0]) (aR 7 [i0])) <| sB (.bin .sub i6 (aR 0 [i0]) (aI 1)) <| sB (.call 100 [(aV 9),(aI 0),(aV 10)]) <| sI (aV 11) (sB (.mget (aR 7 [i1,i1]) (aV 9)) <| sB (.not (aV 12)) <| sI (aV 13) (sB (.mset (aR 7 [i1,i1]) (aV 9) (.bool true)) <| sB (.idx (aR 7 [i1,i0]) (aV 9)) <| sB (.get (aR 7 [i1,i0]) (aV 9)) <| sB (.bin .add i6 (aV 16) (aI 1)) <| sB (.idx (aR 7 [i1,i0]) (aV 9)) <| sB (.get (aR 7 [i1,i0]) (aV 9)) <| sB (.mk tI [(aV 17)]) <| sB (.set (aR 7 [i1,i0]) (aV 9) (aV 20)) <| sB (.bin .add i6 (aR 7 [i0]) (aI 1)) <| sN (tP tI (tP (tS 3 tI) .mp)) [(aV 22),(aV 21),(aV 14)]) <| sB (.bin .add i6 (aR 7 [i0]) (aI 1)) <| sN (tP tI (tP (tS 3 tI) .mp)) [(aV 14),(aR 7 [i1,i0]),(aR 7 [i1,i1])]) <| sB (.bin .add i6 (aR 7 [i0]) (aI 1)) <| sN (tP tI (tP (tS 3 tI) .mp)) [(aV 12),(aR 7 [i1,i0]),(aR 7 [i1,i1])]) <| sU <| sB (.bin .add i6 (aR 3 [i0]) (aI 1)) <| sN (tP tI (tS 3 tI)) [(aV 9),(aR 7 [i1,i0])]) <| sU <| sR (tS 3 tI) [(aR 3 [i1])]
noncomputable def fn122 (x : sg122.p.den) : Option sg122.r.den := st122.den [⟨sg100.key, sg100.p, sg100.r, fn100⟩] [] sg122.r [⟨sg122.p, x⟩]
theorem spec122 : CallSpec Try.prog sg122 fn122 := spec (ss := [sg100]) (an := an122) (stm := st122) follows (Specs.cons spec100 (Specs.nil) (by kernel_rfl)) (by kernel_rfl) (by kernel_rfl) (fun _ => rfl)
theorem eq122 : fn122 = Pf.impl_usage := by kernel_rfl
-- spec.DeviceOk
def sg124 : Sig := ⟨124,124,[.val i1 (tP tI (tP tI (tP tI tI)))],[.val i0 tB i1]⟩
def an124 : Ann := ⟨29,[],[],[],[],[]⟩
def st124 : Stm := sB (.call 125 [(aR 0 [i0]),(aI 3),(aI 6)]) <| sI (aV 1) (sB (.call 125 [(aR 0 [i1,i0]),(aI 3),(aI 6)]) <| sI (aV 2) (sB (.call 125 [(aR 0 [i1,i1,i0]),(aI 1),(aI 4)]) <| sI (aV 3) (sB (.cmp .eq i6 (aR 0 [i1,i1,i1]) (aI (-1))) <| sI (aV 4) (sR tB [(.bool true)]) <| sB (.bin .sub i6 (aR 0 [i0]) (aI 2)) <| sB (.call 125 [(aR 0 [i1,i1,i1]),(aI 1),(aV 5)]) <| sR tB [(aV 6)]) <| sR tB [(.bool false)]) <| sR tB [(.bool false)]) <| sR tB [(.bool false)]
noncomputable def fn124 (x : sg124.p.den) : Option sg124.r.den := st124.den [⟨sg125.key, sg125.p, sg125.r, fn125⟩] [] sg124.r [⟨sg124.p, x⟩]
theorem spec124 : CallSpec Try.prog sg124 fn124 := spec (ss := [sg125]) (an := an124) (stm := st124) follows (Specs.cons spec125 (Specs.nil) (by kernel_rfl)) (by kernel_rfl) (by kernel_rfl) (fun _ => rfl)
theorem eq124 : fn124 = Pf.spec_DeviceOk := by kernel_rfl
-- laws.szRouteS
def sg49 : Sig := ⟨49,49,[.val i0 (tS 50 (tP (tS 3 tI) (tS 3 tI))),.val i0 tI],[.val i0 tI i1]⟩
def an49 : Ann := ⟨27,[],[],[(0,(tP tI tI),[(0,(.c (.s none (aR 0 [i0])))),(1,(sW (aR 4 [i0]))),(5,(sW (aR 4 [i1])))],[])],[],[]⟩
def st49 : Stm := sB (.len (aR 0 [i0])) <| sB (.bin .sub i6 (aR 0 [i1]) (aV 1)) <| sB (.cmp .lt i6 (aV 2) (aI 0)) <| sI (aV 3) (sR tI [(aI (-1))]) <| sL (tP tI tI) [(aV 2),(aI 0)] <| sB (.len (aR 0 [i0])) <| sB (.cmp .lt i6 (aR 4 [i1]) (aV 5)) <| sI (aV 6) (sB (.get (aR 0 [i0]) (aR 4 [i1])) <| sB (.call 44 [(aR 7 [i0]),(aR 7 [i1]),(aR 4 [i0])]) <| sB (.cmp .lt i6 (aV 8) (aI 0)) <| sI (aV 9) (sU <| sR tI [(aI (-1))]) <| sB (.bin .add i6 (aR 4 [i1]) (aI 1)) <| sN (tP tI tI) [(aV 8),(aV 10)]) <| sU <| sR tI [(aR 4 [i0])]
noncomputable def fn49 (x : sg49.p.den) : Option sg49.r.den := st49.den [⟨sg44.key, sg44.p, sg44.r, fn44⟩] [] sg49.r [⟨sg49.p, x⟩]
theorem spec49 : CallSpec Try.prog sg49 fn49 := spec (ss := [sg44]) (an := an49) (stm := st49) follows (Specs.cons spec44 (Specs.nil) (by kernel_rfl)) (by kernel_rfl) (by kernel_rfl) (fun _ => rfl)
theorem eq49 : fn49 = Pf.laws_szRouteS := by kernel_rfl
-- laws.toRouteS
def sg51 : Sig := ⟨51,51,[.val i0 (tS 50 (tP (tS 3 tI) (tS 3 tI)))],[.val i0 (tS 53 (tP (tS 3 tI) (tS 3 tI))) i0]⟩
def an51 : Ann := ⟨23,[],[],[(0,(tP tI (tS 53 (tP (tS 3 tI) (tS 3 tI)))),[(0,(.c (.s none (aV 0)))),(3,(.c (.h 0))),(4,(sW (aR 3 [i0])))],[(.list 53 (tP (tS 3 tI) (tS 3 tI)) (aR 3 [i1]) i0 none)])],[],[]⟩
def st51 : Stm := sB (.len (aV 0)) <| sB (.make 48 53 (tP (tS 3 tI) (tS 3 tI)) (aV 1)) <| sL (tP tI (tS 53 (tP (tS 3 tI) (tS 3 tI)))) [(aI 0),(aV 2)] <| sB (.len (aV 0)) <| sB (.cmp .lt i6 (aR 3 [i0]) (aV 4)) <| sI (aV 5) (sB (.get (aV 0) (aR 3 [i0])) <| sB (.call 46 [(aR 6 [i0]),(aR 6 [i1])]) <| sB (.idx (aR 3 [i1]) (aR 3 [i0])) <| sB (.get (aR 3 [i1]) (aR 3 [i0])) <| sB (.mk (tP (tS 3 tI) (tS 3 tI)) [(aR 7 [i0]),(aR 7 [i1])]) <| sB (.set (aR 3 [i1]) (aR 3 [i0]) (aV 10)) <| sB (.bin .add i6 (aR 3 [i0]) (aI 1)) <| sN (tP tI (tS 53 (tP (tS 3 tI) (tS 3 tI)))) [(aV 12),(aV 11)]) <| sU <| sR (tS 53 (tP (tS 3 tI) (tS 3 tI))) [(aR 3 [i1])]
noncomputable def fn51 (x : sg51.p.den) : Option sg51.r.den := st51.den [⟨sg46.key, sg46.p, sg46.r, fn46⟩] [] sg51.r [⟨sg51.p, x⟩]
theorem spec51 : CallSpec Try.prog sg51 fn51 := spec (ss := [sg46]) (an := an51) (stm := st51) follows (Specs.cons spec46 (Specs.nil) (by kernel_rfl)) (by kernel_rfl) (by kernel_rfl) (fun _ => rfl)
theorem eq51 : fn51 = Pf.laws_toRouteS := by kernel_rfl
-- laws.eqRouteS
def sg53 : Sig := ⟨53,53,[.val i0 (tS 53 (tP (tS 3 tI) (tS 3 tI))),.val i0 (tS 53 (tP (tS 3 tI) (tS 3 tI)))],[.val i0 tB i1]⟩
def an53 : Ann := ⟨27,[(6,[0,1,2,3,4,5,6,7,8,9])],[],[(0,tI,[(0,(.c (.s none (aR 0 [i0])))),(1,(.c (.s none (aR 0 [i1])))),(5,(sW (aV 4)))],[])],[],[]⟩
def st53 : Stm := sB (.len (aR 0 [i0])) <| sB (.len (aR 0 [i1])) <| sB (.cmp .ne i6 (aV 1) (aV 2)) <| sI (aV 3) (sR tB [(.bool false)]) <| sL tI [(aI 0)] <| sB (.len (aR 0 [i0])) <| sB (.cmp .lt i6 (aV 4) (aV 5)) <| sI (aV 6) (sB (.get (aR 0 [i0]) (aV 4)) <| sB (.get (aR 0 [i1]) (aV 4)) <| sB (.call 48 [(aR 7 [i0]),(aR 7 [i1]),(aR 8 [i0]),(aR 8 [i1])]) <| sB (.not (aV 9)) <| sI (aV 10) (sU <| sR tB [(.bool false)]) <| sB (.bin .add i6 (aV 4) (aI 1)) <| sN tI [(aV 11)]) <| sU <| sR tB [(.bool true)]
noncomputable def fn53 (x : sg53.p.den) : Option sg53.r.den := st53.den [⟨sg48.key, sg48.p, sg48.r, fn48⟩] [] sg53.r [⟨sg53.p, x⟩]
theorem spec53 : CallSpec Try.prog sg53 fn53 := spec (ss := [sg48]) (an := an53) (stm := st53) follows (Specs.cons spec48 (Specs.nil) (by kernel_rfl)) (by kernel_rfl) (by kernel_rfl) (fun _ => rfl)
theorem eq53 : fn53 = Pf.laws_eqRouteS := by kernel_rfl
-- impl.SharedCosts
def sg56 : Sig := ⟨56,56,[.val i1 (tP tI (tP tI (tP tI tI))),.val i0 (tS 3 tI),.val i0 (tS 53 (tP (tS 3 tI) (tS 3 tI))),.val i0 tI],[.val i0 (tS 3 tI) i1]⟩
def an56 : Ann := ⟨48,[],[],[(0,tI,[(1,(.c (.s none (aR 0 [i1,i0])))),(2,(.c (.s none (aR 0 [i1,i1,i0])))),(3,(sW (aR 0 [i1,i1,i1]))),(4,(.c (.h 0))),(31,(.c (.s none (aR 0 [i1,i0])))),(32,(sW (aV 10))),(33,(sW (aV 11)))],[(.box 25 [(sV (aR 0 [i0,i0])),(sV (aR 0 [i0,i1,i0])),(sV (aR 0 [i0,i1,i1,i0])),(sV (aR 0 [i0,i1,i1,i1]))])])],[],[]⟩
def st56 : Stm := sB (.call 99 [(aR 0 [i0,i0]),(aR 0 [i0,i1,i0]),(aR 0 [i0,i1,i1,i0]),(aR 0 [i0,i1,i1,i1])]) <| sB (.not (aV 1)) <| sI (aV 2) (sR (tS 3 tI) [(.nil (tS 3 tI))]) <| sB (.len (aR 0 [i1,i1,i0])) <| sB (.cmp .gt i6 (aV 3) (aI 100)) <| sI (aV 4) (sR (tS 3 tI) [(.nil (tS 3 tI))]) <| sB (.len (aR 0 [i1,i0])) <| sB (.call 101 [(aR 0 [i0,i0]),(aR 0 [i0,i1,i0]),(aR 0 [i0,i1,i1,i0]),(aR 0 [i0,i1,i1,i1])]) <| sB (.cmp .ne i6 (aV 5) (aV 6)) <| sI (aV 7) (sR (tS 3 tI) [(.nil (tS 3 tI))]) <| sB (.call 100 [(aR 0 [i1,i1,i1]),(aI 0),(aI 100000)]) <| sB (.not (aV 8)) <| sI (aV 9) (sR (tS 3 tI) [(.nil (tS 3 tI))]) <| sB (.len (aR 0 [i1,i0])) <| sL tI [(aI 0)] <| sB (.cmp .lt i6 (aV 11) (aV 10)) <| sI (aV 12) (sB (.get (aR 0 [i1,i0]) (aV 11)) <| sB (.call 100 [(aV 13),(aI 0),(aI 100000)]) <| sB (.not (aV 14)) <| sI (aV 15) (sU <| sR (tS 3 tI) [(.nil (tS 3 tI))]) <| sB (.bin .add i6 (aV 11) (aI 1)) <| sN tI [(aV 16)]) <| sU <| sB (.call 101 [(aR 0 [i0,i0]),(aR 0 [i0,i1,i0]),(aR 0 [i0,i1,i1,i0]),(aR 0 [i0,i1,i1,i1])]) <| sB (.call 122 [(aV 13),(aR 0 [i1,i1,i0])]) <| sB (.call 127 [(aR 0 [i1,i0]),(aV 14),(aR 0 [i1,i1,i1])]) <| sR (tS 3 tI) [(aV 15)]
noncomputable def fn56 (x : sg56.p.den) : Option sg56.r.den := st56.den [⟨sg99.key, sg99.p, sg99.r, fn99⟩, ⟨sg101.key, sg101.p, sg101.r, fn101⟩, ⟨sg100.key, sg100.p, sg100.r, fn100⟩, ⟨sg122.key, sg122.p, sg122.r, fn122⟩, ⟨sg127.key, sg127.p, sg127.r, fn127⟩] [] sg56.r [⟨sg56.p, x⟩]
theorem spec56 : CallSpec Try.prog sg56 fn56 := spec (ss := [sg99, sg101, sg100, sg122, sg127]) (an := an56) (stm := st56) follows (Specs.cons spec99 (Specs.cons spec101 (Specs.cons spec100 (Specs.cons spec122 (Specs.cons spec127 (Specs.nil) (by kernel_rfl)) (by kernel_rfl)) (by kernel_rfl)) (by kernel_rfl)) (by kernel_rfl)) (by kernel_rfl) (by kernel_rfl) (fun _ => rfl)
theorem eq56 : fn56 = Pf.impl_SharedCosts := by kernel_rfl
-- spec.RouteNodes
def sg92 : Sig := ⟨92,92,[.val i1 (tP tI (tP tI (tP tI tI)))],[.val i0 tI i1]⟩
def an92 : Ann := ⟨14,[(3,[0,1,2,3,4,5,6,7,8])],[],[],[],[]⟩
def st92 : Stm := sB (.call 124 [(aR 0 [i0]),(aR 0 [i1,i0]),(aR 0 [i1,i1,i0]),(aR 0 [i1,i1,i1])]) <| sB (.not (aV 1)) <| sI (aV 2) (sR tI [(aI 0)]) <| sB (.bin .mul i6 (aR 0 [i0]) (aR 0 [i1,i0])) <| sB (.call 93 [(aR 0 [i0]),(aR 0 [i1,i0]),(aR 0 [i1,i1,i0]),(aR 0 [i1,i1,i1])]) <| sB (.bin .mul i6 (aV 3) (aV 4)) <| sR tI [(aV 5)]
noncomputable def fn92 (x : sg92.p.den) : Option sg92.r.den := st92.den [⟨sg124.key, sg124.p, sg124.r, fn124⟩, ⟨sg93.key, sg93.p, sg93.r, fn93⟩] [] sg92.r [⟨sg92.p, x⟩]
theorem spec92 : CallSpec Try.prog sg92 fn92 := spec (ss := [sg124, sg93]) (an := an92) (stm := st92) follows (Specs.cons spec124 (Specs.cons spec93 (Specs.nil) (by kernel_rfl)) (by kernel_rfl)) (by kernel_rfl) (by kernel_rfl) (fun _ => rfl)
theorem eq92 : fn92 = Pf.spec_RouteNodes := by kernel_rfl
-- spec.SharedCosts
def sg55 : Sig := ⟨55,55,[.val i1 (tP tI (tP tI (tP tI tI))),.val i0 (tS 3 tI),.val i0 (tS 53 (tP (tS 3 tI) (tS 3 tI))),.val i0 tI],[.val i0 (tS 3 tI) i0]⟩
def an55 : Ann := ⟨51,[],[],[(0,tI,[(1,(.c (.s none (aR 0 [i1,i0])))),(2,(.c (.s none (aR 0 [i1,i1,i0])))),(3,(sW (aR 0 [i1,i1,i1]))),(9,(sW (aV 10)))],[.dead])],[],[]⟩
def st55 : Stm := sB (.call 124 [(aR 0 [i0,i0]),(aR 0 [i0,i1,i0]),(aR 0 [i0,i1,i1,i0]),(aR 0 [i0,i1,i1,i1])]) <| sB (.not (aV 1)) <| sI (aV 2) (sR (tS 3 tI) [(.nil (tS 3 tI))]) <| sB (.len (aR 0 [i1,i1,i0])) <| sB (.cmp .gt i6 (aV 3) (aI 100)) <| sI (aV 4) (sR (tS 3 tI) [(.nil (tS 3 tI))]) <| sB (.len (aR 0 [i1,i0])) <| sB (.call 92 [(aR 0 [i0,i0]),(aR 0 [i0,i1,i0]),(aR 0 [i0,i1,i1,i0]),(aR 0 [i0,i1,i1,i1])]) <| sB (.cmp .ne i6 (aV 5) (aV 6)) <| sI (aV 7) (sR (tS 3 tI) [(.nil (tS 3 tI))]) <| sB (.call 125 [(aR 0 [i1,i1,i1]),(aI 0),(aI 100000)]) <| sB (.not (aV 8)) <| sI (aV 9) (sR (tS 3 tI) [(.nil (tS 3 tI))]) <| sL tI [(aI 0)] <| sB (.len (aR 0 [i1,i0])) <| sB (.cmp .lt i6 (aV 10) (aV 11)) <| sI (aV 12) (sB (.get (aR 0 [i1,i0]) (aV 10)) <| sB (.call 125 [(aV 13),(aI 0),(aI 100000)]) <| sB (.not (aV 14)) <| sI (aV 15) (sU <| sR (tS 3 tI) [(.nil (tS 3 tI))]) <| sB (.bin .add i6 (aV 10) (aI 1)) <| sN tI [(aV 16)]) <| sU <| sB (.len (aR 0 [i1,i0])) <| sB (.call 121 [(aV 13),(aR 0 [i1,i1,i0]),(aI (-1))]) <| sB (.call 126 [(aR 0 [i1,i0]),(aV 14),(aR 0 [i1,i1,i1])]) <| sR (tS 3 tI) [(aV 15)]
noncomputable def fn55 (x : sg55.p.den) : Option sg55.r.den := st55.den [⟨sg124.key, sg124.p, sg124.r, fn124⟩, ⟨sg92.key, sg92.p, sg92.r, fn92⟩, ⟨sg125.key, sg125.p, sg125.r, fn125⟩, ⟨sg121.key, sg121.p, sg121.r, fn121⟩, ⟨sg126.key, sg126.p, sg126.r, fn126⟩] [] sg55.r [⟨sg55.p, x⟩]
theorem spec55 : CallSpec Try.prog sg55 fn55 := spec (ss := [sg124, sg92, sg125, sg121, sg126]) (an := an55) (stm := st55) follows (Specs.cons spec124 (Specs.cons spec92 (Specs.cons spec125 (Specs.cons spec121 (Specs.cons spec126 (Specs.nil) (by kernel_rfl)) (by kernel_rfl)) (by kernel_rfl)) (by kernel_rfl)) (by kernel_rfl)) (by kernel_rfl) (by kernel_rfl) (fun _ => rfl)
theorem eq55 : fn55 = Pf.spec_SharedCosts := by kernel_rfl
-- laws.FnExactSharedCosts
def sg10 : Sig := ⟨10,10,[.val i1 (tP tI (tP tI (tP tI tI))),.val i0 (tS 3 tI),.val i0 (tS 50 (tP (tS 3 tI) (tS 3 tI))),.val i0 tI],[.val i0 tB i1]⟩
def an10 : Ann := ⟨103,[],[],[],[],[]⟩
def st10 : Stm := sB (.len (aR 0 [i1,i0])) <| sB (.cmp .gt i6 (aV 1) (aI 1048576)) <| sI (aV 2) (sR tB [(.bool true)]) <| sB (.call 49 [(aR 0 [i1,i1,i0]),(aI 1048576)]) <| sB (.cmp .lt i6 (aV 3) (aI 0)) <| sI (aV 4) (sR tB [(.bool true)]) <| sB (.call 26 [(aR 0 [i0,i0]),(aR 0 [i0,i1,i0]),(aR 0 [i0,i1,i1,i0]),(aR 0 [i0,i1,i1,i1])]) <| sB (.call 32 [(aR 0 [i1,i0])]) <| sB (.call 51 [(aR 0 [i1,i1,i0])]) <| sB (.call 55 [(aR 5 [i0]),(aR 5 [i1,i0]),(aR 5 [i1,i1,i0]),(aR 5 [i1,i1,i1]),(aV 6),(aV 7),(aR 0 [i1,i1,i1])]) <| sB (.call 32 [(aR 0 [i1,i0])]) <| sB (.call 51 [(aR 0 [i1,i1,i0])]) <| sB (.call 26 [(aR 0 [i0,i0]),(aR 0 [i0,i1,i0]),(aR 0 [i0,i1,i1,i0]),(aR 0 [i0,i1,i1,i1])]) <| sB (.call 56 [(aR 11 [i0]),(aR 11 [i1,i0]),(aR 11 [i1,i1,i0]),(aR 11 [i1,i1,i1]),(aV 9),(aV 10),(aR 0 [i1,i1,i1])]) <| sB (.call 35 [(aV 12),(aV 8)]) <| sB (.not (aV 13)) <| sI (aV 14) (sR tB [(.bool false)]) <| sB (.call 32 [(aR 0 [i1,i0])]) <| sB (.call 35 [(aV 9),(aV 15)]) <| sB (.not (aV 16)) <| sI (aV 17) (sR tB [(.bool false)]) <| sB (.call 51 [(aR 0 [i1,i1,i0])]) <| sB (.call 53 [(aV 10),(aV 18)]) <| sB (.not (aV 19)) <| sI (aV 20) (sR tB [(.bool false)]) <| sB (.call 39 [(aV 9),(aI 1)]) <| sB (.call 54 [(aV 10),(aR 21 [i0])]) <| sB (.cmp .lt i6 (aR 22 [i0]) (aI 0)) <| sI (aV 23) (sR tB [(.bool false)]) <| sB (.call 35 [(aV 12),(aV 8)]) <| sB (.not (aV 24)) <| sI (aV 25) (sR tB [(.bool false)]) <| sB (.call 39 [(aV 12),(aI 1)]) <| sB (.call 40 [(aR 26 [i1]),(aI 1)]) <| sB (.cmp .lt i6 (aV 27) (aI 0)) <| sI (aV 28) (sR tB [(.bool false)]) <| sB (.cmp .ne i6 (aV 27) (aR 26 [i0])) <| sI (aV 29) (sR tB [(.bool false)]) <| sB (.call 26 [(aR 0 [i0,i0]),(aR 0 [i0,i1,i0]),(aR 0 [i0,i1,i1,i0]),(aR 0 [i0,i1,i1,i1])]) <| sB (.call 32 [(aR 0 [i1,i0])]) <| sB (.call 51 [(aR 0 [i1,i1,i0])]) <| sB (.call 56 [(aR 30 [i0]),(aR 30 [i1,i0]),(aR 30 [i1,i1,i0]),(aR 30 [i1,i1,i1]),(aV 31),(aV 32),(aR 0 [i1,i1,i1])]) <| sB (.call 35 [(aV 33),(aV 8)]) <| sB (.not (aV 34)) <| sI (aV 35) (sR tB [(.bool false)]) <| sB (.call 40 [(aR 26 [i1]),(aI 1)]) <| sB (.cmp .lt i6 (aV 36) (aI 0)) <| sI (aV 37) (sR tB [(.bool false)]) <| sB (.cmp .ne i6 (aV 36) (aR 26 [i0])) <| sI (aV 38) (sR tB [(.bool false)]) <| sR tB [(.bool true)]
noncomputable def fn10 (x : sg10.p.den) : Option sg10.r.den := st10.den [⟨sg49.key, sg49.p, sg49.r, fn49⟩, ⟨sg26.key, sg26.p, sg26.r, fn26⟩, ⟨sg32.key, sg32.p, sg32.r, fn32⟩, ⟨sg51.key, sg51.p, sg51.r, fn51⟩, ⟨sg55.key, sg55.p, sg55.r, fn55⟩, ⟨sg56.key, sg56.p, sg56.r, fn56⟩, ⟨sg35.key, sg35.p, sg35.r, fn35⟩, ⟨sg53.key, sg53.p, sg53.r, fn53⟩, ⟨sg39.key, sg39.p, sg39.r, fn39⟩, ⟨sg54.key, sg54.p, sg54.r, fn54⟩, ⟨sg40.key, sg40.p, sg40.r, fn40⟩] [] sg10.r [⟨sg10.p, x⟩]
theorem spec10 : CallSpec Try.prog sg10 fn10 := spec (ss := [sg49, sg26, sg32, sg51, sg55, sg56, sg35, sg53, sg39, sg54, sg40]) (an := an10) (stm := st10) follows (Specs.cons spec49 (Specs.cons spec26 (Specs.cons spec32 (Specs.cons spec51 (Specs.cons spec55 (Specs.cons spec56 (Specs.cons spec35 (Specs.cons spec53 (Specs.cons spec39 (Specs.cons spec54 (Specs.cons spec40 (Specs.nil) (by kernel_rfl)) (by kernel_rfl)) (by kernel_rfl)) (by kernel_rfl)) (by kernel_rfl)) (by kernel_rfl)) (by kernel_rfl)) (by kernel_rfl)) (by kernel_rfl)) (by kernel_rfl)) (by kernel_rfl)) (by kernel_rfl) (by kernel_rfl) (fun _ => rfl)
theorem eq10 : fn10 = Pf.laws_FnExactSharedCosts := by kernel_rfl
end Go.Proofs.Ytfkaffmfhnkebaa
