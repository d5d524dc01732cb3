/-
  Own work, printed by my tool: signatures, annotations and the compiled statements of the functions that the law reaches; each one's contract.
-/
import Derived.Test.YtlfmlhoajobafaaD
import Derived.Test.YtlfmlhoajobafaaProg
namespace Go.Proofs.Ytlfmlhoajobafaa
open Go Go.Pu Go.Proofs
theorem follows : Try.prog.follows .mixedOrders = true := by kernel_rfl
-- laws.toIntS
def sg18 : Sig := ⟨18,18,[.val i0 (tS 3 tI)],[.val i0 (tS 3 tI) i0]⟩
def an18 : Ann := ⟨22,[],[],[(0,(tP tI (tS 3 tI)),[(0,(.c (.s none (aV 0)))),(3,(.c (.h 0))),(4,(sW (aR 3 [i0])))],[(.list 3 tI (aR 3 [i1]) i0 none)])],[],[]⟩
def st18 : Stm := sB (.len (aV 0)) <| sB (.make 8 3 tI (aV 1)) <| sL (tP tI (tS 3 tI)) [(aI 0),(aV 2)] <| sB (.len (aV 0)) <| sB (.cmp .lt i6 (aR 3 [i0]) (aV 4)) <| sI (aV 5) (sB (.get (aV 0) (aR 3 [i0])) <| sB (.idx (aR 3 [i1]) (aR 3 [i0])) <| sB (.get (aR 3 [i1]) (aR 3 [i0])) <| sB (.mk tI [(aV 6)]) <| sB (.set (aR 3 [i1]) (aR 3 [i0]) (aV 9)) <| sB (.bin .add i6 (aR 3 [i0]) (aI 1)) <| sN (tP tI (tS 3 tI)) [(aV 11),(aV 10)]) <| sU <| sR (tS 3 tI) [(aR 3 [i1])]
noncomputable def fn18 (x : sg18.p.den) : Option sg18.r.den := st18.den [] [] sg18.r [⟨sg18.p, x⟩]
theorem spec18 : CallSpec Try.prog sg18 fn18 := spec (ss := []) (an := an18) (stm := st18) follows (Specs.nil) (by kernel_rfl) (by kernel_rfl) (fun _ => rfl)
theorem eq18 : fn18 = Pf.laws_toIntS := by kernel_rfl
-- laws.eqIntS
def sg22 : Sig := ⟨22,22,[.val i0 (tS 3 tI),.val i0 (tS 3 tI)],[.val i0 tB i1]⟩
def an22 : Ann := ⟨26,[(6,[0,1,2,3,4,5,6,7,8])],[],[(0,tI,[(0,(.c (.s none (aR 0 [i0])))),(1,(.c (.s none (aR 0 [i1])))),(5,(sW (aV 4)))],[])],[],[]⟩
def st22 : Stm := sB (.len (aR 0 [i0])) <| sB (.len (aR 0 [i1])) <| sB (.cmp .ne i6 (aV 1) (aV 2)) <| sI (aV 3) (sR tB [(.bool false)]) <| sL tI [(aI 0)] <| sB (.len (aR 0 [i0])) <| sB (.cmp .lt i6 (aV 4) (aV 5)) <| sI (aV 6) (sB (.get (aR 0 [i0]) (aV 4)) <| sB (.get (aR 0 [i1]) (aV 4)) <| sB (.cmp .ne i6 (aV 7) (aV 8)) <| sI (aV 9) (sU <| sR tB [(.bool false)]) <| sB (.bin .add i6 (aV 4) (aI 1)) <| sN tI [(aV 10)]) <| sU <| sR tB [(.bool true)]
noncomputable def fn22 (x : sg22.p.den) : Option sg22.r.den := st22.den [] [] sg22.r [⟨sg22.p, x⟩]
theorem spec22 : CallSpec Try.prog sg22 fn22 := spec (ss := []) (an := an22) (stm := st22) follows (Specs.nil) (by kernel_rfl) (by kernel_rfl) (fun _ => rfl)
theorem eq22 : fn22 = Pf.laws_eqIntS := by kernel_rfl
-- laws.markIntS
def sg24 : Sig := ⟨24,24,[.own i0 (tS 3 tI) i1,.val i0 tI],[.val i0 tI i1]⟩
def an24 : Ann := ⟨19,[],[],[(0,(tP tI (tP tI (tS 3 tI))),[(0,(.c (.h 0))),(1,(sW (aR 1 [i0]))),(5,(sW (aR 1 [i1,i0])))],[(.list 3 tI (aR 1 [i1,i1]) i0 none)])],[],[]⟩
def st24 : Stm := sL (tP tI (tP tI (tS 3 tI))) [(aR 0 [i1]),(aI 0),(aR 0 [i0])] <| sB (.len (aR 1 [i1,i1])) <| sB (.cmp .lt i6 (aR 1 [i1,i0]) (aV 2)) <| sI (aV 3) (sB (.idx (aR 1 [i1,i1]) (aR 1 [i1,i0])) <| sB (.get (aR 1 [i1,i1]) (aR 1 [i1,i0])) <| sB (.mk tI [(aR 1 [i0])]) <| sB (.set (aR 1 [i1,i1]) (aR 1 [i1,i0]) (aV 6)) <| sB (.bin .add i6 (aR 1 [i0]) (aI 1)) <| sB (.bin .add i6 (aR 1 [i1,i0]) (aI 1)) <| sN (tP tI (tP tI (tS 3 tI))) [(aV 8),(aV 9),(aV 7)]) <| sU <| sR (tP tI (tS 3 tI)) [(aR 1 [i0]),(aR 1 [i1,i1])]
noncomputable def fn24 (x : sg24.p.den) : Option sg24.r.den := st24.den [] [] sg24.r [⟨sg24.p, x⟩]
theorem spec24 : CallSpec Try.prog sg24 fn24 := spec (ss := []) (an := an24) (stm := st24) follows (Specs.nil) (by kernel_rfl) (by kernel_rfl) (fun _ => rfl)
theorem eq24 : fn24 = Pf.laws_markIntS := by kernel_rfl
-- laws.heldIntS
def sg30 : Sig := ⟨30,30,[.val i0 (tS 3 tI),.val i0 tI],[.val i0 tI i1]⟩
def an30 : Ann := ⟨21,[],[],[(0,(tP tI tI),[(0,(.c (.s none (aR 0 [i0])))),(1,(sW (aR 1 [i0]))),(5,(sW (aR 1 [i1])))],[])],[],[]⟩
def st30 : Stm := sL (tP tI tI) [(aR 0 [i1]),(aI 0)] <| sB (.len (aR 0 [i0])) <| sB (.cmp .lt i6 (aR 1 [i1]) (aV 2)) <| sI (aV 3) (sB (.get (aR 0 [i0]) (aR 1 [i1])) <| sB (.cmp .ne i6 (aV 4) (aR 1 [i0])) <| sI (aV 5) (sU <| sR tI [(aI (-1))]) <| sB (.bin .add i6 (aR 1 [i0]) (aI 1)) <| sB (.bin .add i6 (aR 1 [i1]) (aI 1)) <| sN (tP tI tI) [(aV 6),(aV 7)]) <| sU <| sR tI [(aR 1 [i0])]
noncomputable def fn30 (x : sg30.p.den) : Option sg30.r.den := st30.den [] [] sg30.r [⟨sg30.p, x⟩]
theorem spec30 : CallSpec Try.prog sg30 fn30 := spec (ss := []) (an := an30) (stm := st30) follows (Specs.nil) (by kernel_rfl) (by kernel_rfl) (fun _ => rfl)
theorem eq30 : fn30 = Pf.laws_heldIntS := by kernel_rfl
-- laws.toLe
def sg39 : Sig := ⟨39,39,[.val i1 (tP tI tI)],[.val i1 (tP tI tI) i1]⟩
def an39 : Ann := ⟨11,[],[],[],[],[]⟩
def st39 : Stm := sR (tP tI tI) [(aR 0 [i0]),(aR 0 [i1])]
noncomputable def fn39 (x : sg39.p.den) : Option sg39.r.den := st39.den [] [] sg39.r [⟨sg39.p, x⟩]
theorem spec39 : CallSpec Try.prog sg39 fn39 := spec (ss := []) (an := an39) (stm := st39) follows (Specs.nil) (by kernel_rfl) (by kernel_rfl) (fun _ => rfl)
theorem eq39 : fn39 = Pf.laws_toLe := by kernel_rfl
-- spec.l01In
def sg72 : Sig := ⟨72,72,[.val i0 tI,.val i0 tI,.val i0 tI],[.val i0 tB i1]⟩
def an72 : Ann := ⟨15,[],[],[],[],[]⟩
def st72 : Stm := sB (.cmp .ge i6 (aR 0 [i0]) (aR 0 [i1,i0])) <| sI (aV 1) (sB (.cmp .le i6 (aR 0 [i0]) (aR 0 [i1,i1])) <| sR tB [(aV 2)]) <| sR tB [(.bool false)]
noncomputable def fn72 (x : sg72.p.den) : Option sg72.r.den := st72.den [] [] sg72.r [⟨sg72.p, x⟩]
theorem spec72 : CallSpec Try.prog sg72 fn72 := spec (ss := []) (an := an72) (stm := st72) follows (Specs.nil) (by kernel_rfl) (by kernel_rfl) (fun _ => rfl)
theorem eq72 : fn72 = Pf.spec_l01In := by kernel_rfl
-- impl.inRange
def sg78 : Sig := ⟨78,78,[.val i0 tI,.val i0 tI,.val i0 tI],[.val i0 tB i1]⟩
def an78 : Ann := ⟨15,[],[],[],[],[]⟩
def st78 : Stm := sB (.cmp .ge i6 (aR 0 [i0]) (aR 0 [i1,i0])) <| sI (aV 1) (sB (.cmp .le i6 (aR 0 [i0]) (aR 0 [i1,i1])) <| sR tB [(aV 2)]) <| sR tB [(.bool false)]
noncomputable def fn78 (x : sg78.p.den) : Option sg78.r.den := st78.den [] [] sg78.r [⟨sg78.p, x⟩]
theorem spec78 : CallSpec Try.prog sg78 fn78 := spec (ss := []) (an := an78) (stm := st78) follows (Specs.nil) (by kernel_rfl) (by kernel_rfl) (fun _ => rfl)
theorem eq78 : fn78 = Pf.impl_inRange := by kernel_rfl
-- impl.copyInts
def sg91 : Sig := ⟨91,91,[.val i0 (tS 3 tI)],[.val i0 (tS 3 tI) i0]⟩
def an91 : Ann := ⟨6,[],[],[],[],[]⟩
def st91 : Stm := sB (.app 8 (.nil (tS 3 tI)) (aV 0)) <| sR (tS 3 tI) [(aV 1)]
noncomputable def fn91 (x : sg91.p.den) : Option sg91.r.den := st91.den [] [] sg91.r [⟨sg91.p, x⟩]
theorem spec91 : CallSpec Try.prog sg91 fn91 := spec (ss := []) (an := an91) (stm := st91) follows (Specs.nil) (by kernel_rfl) (by kernel_rfl) (fun _ => rfl)
theorem eq91 : fn91 = Pf.impl_copyInts := by kernel_rfl
-- laws.szIntS
def sg99 : Sig := ⟨99,99,[.val i0 (tS 3 tI),.val i0 tI],[.val i0 tI i1]⟩
def an99 : Ann := ⟨12,[],[],[],[],[]⟩
def st99 : Stm := sB (.len (aR 0 [i0])) <| sB (.bin .sub i6 (aR 0 [i1]) (aV 1)) <| sB (.cmp .lt i6 (aV 2) (aI 0)) <| sI (aV 3) (sR tI [(aI (-1))]) <| sR tI [(aV 2)]
noncomputable def fn99 (x : sg99.p.den) : Option sg99.r.den := st99.den [] [] sg99.r [⟨sg99.p, x⟩]
theorem spec99 : CallSpec Try.prog sg99 fn99 := spec (ss := []) (an := an99) (stm := st99) follows (Specs.nil) (by kernel_rfl) (by kernel_rfl) (fun _ => rfl)
theorem eq99 : fn99 = Pf.laws_szIntS := by kernel_rfl
-- impl.lutNodes
def sg106 : Sig := ⟨106,106,[.val i1 (tP tI (tP (tS 145 (tP tI (tP tI (tS 3 tI)))) (tP (tS 168 (tP (tS 3 tI) tI)) (tS 3 tI))))],[.val i0 tI i1]⟩
def an106 : Ann := ⟨14,[],[],[],[],[]⟩
def st106 : Stm := sB (.bin .add i6 (aI 1) (aR 0 [i0])) <| sB (.len (aR 0 [i1,i0])) <| sB (.bin .add i6 (aV 1) (aV 2)) <| sB (.len (aR 0 [i1,i1,i0])) <| sB (.bin .add i6 (aV 3) (aV 4)) <| sR tI [(aV 5)]
noncomputable def fn106 (x : sg106.p.den) : Option sg106.r.den := st106.den [] [] sg106.r [⟨sg106.p, x⟩]
theorem spec106 : CallSpec Try.prog sg106 fn106 := spec (ss := []) (an := an106) (stm := st106) follows (Specs.nil) (by kernel_rfl) (by kernel_rfl) (fun _ => rfl)
theorem eq106 : fn106 = Pf.impl_lutNodes := by kernel_rfl
-- laws.szLeS
def sg118 : Sig := ⟨118,118,[.val i0 (tS 60 (tP tI tI)),.val i0 tI],[.val i0 tI i1]⟩
def an118 : Ann := ⟨12,[],[],[],[],[]⟩
def st118 : Stm := sB (.len (aR 0 [i0])) <| sB (.bin .sub i6 (aR 0 [i1]) (aV 1)) <| sB (.cmp .lt i6 (aV 2) (aI 0)) <| sI (aV 3) (sR tI [(aI (-1))]) <| sR tI [(aV 2)]
noncomputable def fn118 (x : sg118.p.den) : Option sg118.r.den := st118.den [] [] sg118.r [⟨sg118.p, x⟩]
theorem spec118 : CallSpec Try.prog sg118 fn118 := spec (ss := []) (an := an118) (stm := st118) follows (Specs.nil) (by kernel_rfl) (by kernel_rfl) (fun _ => rfl)
theorem eq118 : fn118 = Pf.laws_szLeS := by kernel_rfl
-- laws.markLeS
def sg124 : Sig := ⟨124,124,[.own i0 (tS 62 (tP tI tI)) i1,.val i0 tI],[.val i0 tI i1]⟩
def an124 : Ann := ⟨27,[],[],[(0,(tP tI (tP tI (tS 62 (tP tI tI)))),[(0,(.c (.h 0))),(1,(sW (aR 1 [i0]))),(5,(sW (aR 1 [i1,i0])))],[(.list 62 (tP tI tI) (aR 1 [i1,i1]) i0 none)])],[],[]⟩
def st124 : Stm := sL (tP tI (tP tI (tS 62 (tP tI tI)))) [(aR 0 [i1]),(aI 0),(aR 0 [i0])] <| sB (.len (aR 1 [i1,i1])) <| sB (.cmp .lt i6 (aR 1 [i1,i0]) (aV 2)) <| sI (aV 3) (sB (.idx (aR 1 [i1,i1]) (aR 1 [i1,i0])) <| sB (.get (aR 1 [i1,i1]) (aR 1 [i1,i0])) <| sB (.mk (tP tI tI) [(aR 1 [i0]),(aR 5 [i1])]) <| sB (.set (aR 1 [i1,i1]) (aR 1 [i1,i0]) (aV 6)) <| sB (.bin .add i6 (aR 1 [i0]) (aI 1)) <| sB (.idx (aV 7) (aR 1 [i1,i0])) <| sB (.get (aV 7) (aR 1 [i1,i0])) <| sB (.mk (tP tI tI) [(aR 10 [i0]),(aV 8)]) <| sB (.set (aV 7) (aR 1 [i1,i0]) (aV 11)) <| sB (.bin .add i6 (aV 8) (aI 1)) <| sB (.bin .add i6 (aR 1 [i1,i0]) (aI 1)) <| sN (tP tI (tP tI (tS 62 (tP tI tI)))) [(aV 13),(aV 14),(aV 12)]) <| sU <| sR (tP tI (tS 62 (tP tI tI))) [(aR 1 [i0]),(aR 1 [i1,i1])]
noncomputable def fn124 (x : sg124.p.den) : Option sg124.r.den := st124.den [] [] sg124.r [⟨sg124.p, x⟩]
theorem spec124 : CallSpec Try.prog sg124 fn124 := spec (ss := []) (an := an124) (stm := st124) follows (Specs.nil) (by kernel_rfl) (by kernel_rfl) (fun _ => rfl)
theorem eq124 : fn124 = Pf.laws_markLeS := by kernel_rfl
-- spec.l13Has
def sg133 : Sig := ⟨133,133,[.val i0 (tS 3 tI),.val i0 tI],[.val i0 tB i1]⟩
def an133 : Ann := ⟨18,[],[],[(0,tI,[(0,(.c (.s none (aR 0 [i0])))),(1,(sW (aR 0 [i1]))),(5,(sW (aV 1)))],[])],[],[]⟩
def st133 : Stm := sL tI [(aI 0)] <| sB (.len (aR 0 [i0])) <| sB (.cmp .lt i6 (aV 1) (aV 2)) <| sI (aV 3) (sB (.get (aR 0 [i0]) (aV 1)) <| sB (.cmp .eq i6 (aV 4) (aR 0 [i1])) <| sI (aV 5) (sU <| sR tB [(.bool true)]) <| sB (.bin .add i6 (aV 1) (aI 1)) <| sN tI [(aV 6)]) <| sU <| sR tB [(.bool false)]
noncomputable def fn133 (x : sg133.p.den) : Option sg133.r.den := st133.den [] [] sg133.r [⟨sg133.p, x⟩]
theorem spec133 : CallSpec Try.prog sg133 fn133 := spec (ss := []) (an := an133) (stm := st133) follows (Specs.nil) (by kernel_rfl) (by kernel_rfl) (fun _ => rfl)
theorem eq133 : fn133 = Pf.spec_l13Has := by kernel_rfl
-- impl.hasInt
def sg134 : Sig := ⟨134,134,[.val i0 (tS 3 tI),.val i0 tI],[.val i0 tB i1]⟩
def an134 : Ann := ⟨17,[],[],[(0,tI,[(1,(sW (aR 0 [i1]))),(7,(.c (.s none (aR 0 [i0])))),(8,(sW (aV 1))),(9,(sW (aV 2)))],[])],[],[]⟩
def st134 : Stm := sB (.len (aR 0 [i0])) <| sL tI [(aI 0)] <| sB (.cmp .lt i6 (aV 2) (aV 1)) <| sI (aV 3) (sB (.get (aR 0 [i0]) (aV 2)) <| sB (.cmp .eq i6 (aV 4) (aR 0 [i1])) <| sI (aV 5) (sU <| sR tB [(.bool true)]) <| sB (.bin .add i6 (aV 2) (aI 1)) <| sN tI [(aV 6)]) <| sU <| sR tB [(.bool false)]
noncomputable def fn134 (x : sg134.p.den) : Option sg134.r.den := st134.den [] [] sg134.r [⟨sg134.p, x⟩]
theorem spec134 : CallSpec Try.prog sg134 fn134 := spec (ss := []) (an := an134) (stm := st134) follows (Specs.nil) (by kernel_rfl) (by kernel_rfl) (fun _ => rfl)
theorem eq134 : fn134 = Pf.impl_hasInt := by kernel_rfl
-- spec.l20Below
def sg148 : Sig := ⟨148,148,[.val i0 (tS 3 tI),.val i0 tI],[.val i0 tB i1]⟩
def an148 : Ann := ⟨25,[],[],[(0,tI,[(0,(.c (.s none (aR 0 [i0])))),(1,(sW (aR 0 [i1]))),(5,(sW (aV 1)))],[])],[],[]⟩
def st148 : Stm := sL tI [(aI 0)] <| sB (.len (aR 0 [i0])) <| sB (.cmp .lt i6 (aV 1) (aV 2)) <| sI (aV 3) (sB (.get (aR 0 [i0]) (aV 1)) <| sB (.cmp .lt i6 (aV 4) (aI 0)) <| sI (aV 5) (sU <| sR tB [(.bool false)]) <| sB (.get (aR 0 [i0]) (aV 1)) <| sB (.cmp .ge i6 (aV 6) (aR 0 [i1])) <| sI (aV 7) (sU <| sR tB [(.bool false)]) <| sB (.bin .add i6 (aV 1) (aI 1)) <| sN tI [(aV 8)]) <| sU <| sR tB [(.bool true)]
noncomputable def fn148 (x : sg148.p.den) : Option sg148.r.den := st148.den [] [] sg148.r [⟨sg148.p, x⟩]
theorem spec148 : CallSpec Try.prog sg148 fn148 := spec (ss := []) (an := an148) (stm := st148) follows (Specs.nil) (by kernel_rfl) (by kernel_rfl) (fun _ => rfl)
theorem eq148 : fn148 = Pf.spec_l20Below := by kernel_rfl
-- spec.l20First
def sg150 : Sig := ⟨150,150,[.val i1 (tP tI (tP (tS 145 (tP tI (tP tI (tS 3 tI)))) (tP (tS 168 (tP (tS 3 tI) tI)) (tS 3 tI))))],[.val i0 tI i1]⟩
def an150 : Ann := ⟨10,[],[],[],[],[]⟩
def st150 : Stm := sB (.bin .add i6 (aI 1) (aR 0 [i0])) <| sB (.len (aR 0 [i1,i0])) <| sB (.bin .add i6 (aV 1) (aV 2)) <| sR tI [(aV 3)]
noncomputable def fn150 (x : sg150.p.den) : Option sg150.r.den := st150.den [] [] sg150.r [⟨sg150.p, x⟩]
theorem spec150 : CallSpec Try.prog sg150 fn150 := spec (ss := []) (an := an150) (stm := st150) follows (Specs.nil) (by kernel_rfl) (by kernel_rfl) (fun _ => rfl)
theorem eq150 : fn150 = Pf.spec_l20First := by kernel_rfl
-- impl.firstLut
def sg156 : Sig := ⟨156,156,[.val i1 (tP tI (tP (tS 145 (tP tI (tP tI (tS 3 tI)))) (tP (tS 168 (tP (tS 3 tI) tI)) (tS 3 tI))))],[.val i0 tI i1]⟩
def an156 : Ann := ⟨10,[],[],[],[],[]⟩
def st156 : Stm := sB (.bin .add i6 (aI 1) (aR 0 [i0])) <| sB (.len (aR 0 [i1,i0])) <| sB (.bin .add i6 (aV 1) (aV 2)) <| sR tI [(aV 3)]
noncomputable def fn156 (x : sg156.p.den) : Option sg156.r.den := st156.den [] [] sg156.r [⟨sg156.p, x⟩]
theorem spec156 : CallSpec Try.prog sg156 fn156 := spec (ss := []) (an := an156) (stm := st156) follows (Specs.nil) (by kernel_rfl) (by kernel_rfl) (fun _ => rfl)
theorem eq156 : fn156 = Pf.impl_firstLut := by kernel_rfl
-- impl.insertInt
def sg161 : Sig := ⟨161,161,[.own i0 (tS 3 tI) i0,.val i0 tI],[.val i0 (tS 3 tI) i0]⟩
def an161 : Ann := ⟨48,[],[],[(0,tI,[(0,(.c (.h 0))),(1,(sW (aR 0 [i1]))),(5,(sW (aV 1)))],[(.list 3 tI (aR 0 [i0]) i0 none)])],[(0,tI,[(0,(.c (.h 0))),(1,(sW (aR 0 [i1]))),(5,(sW (aV 1)))],[(.list 3 tI (aR 0 [i0]) i0 none)])],[]⟩
def st161 : Stm := sJ tI (sL tI [(aI 0)] <| sB (.len (aR 0 [i0])) <| sB (.cmp .lt i6 (aV 1) (aV 2)) <| sI (aV 3) (sB (.idx (aR 0 [i0]) (aV 1)) <| sB (.get (aR 0 [i0]) (aV 1)) <| sB (.cmp .lt i6 (aV 5) (aR 0 [i1])) <| sI (aV 6) (sB (.bin .add i6 (aV 1) (aI 1)) <| sN tI [(aV 7)]) <| sU <| sN tI [(aV 1)]) <| sU <| sN tI [(aV 1)]) <| sB (.len (aR 0 [i0])) <| sB (.cmp .lt i6 (aV 1) (aV 2)) <| sI (aV 3) (sB (.idx (aR 0 [i0]) (aV 1)) <| sB (.get (aR 0 [i0]) (aV 1)) <| sB (.cmp .eq i6 (aV 5) (aR 0 [i1])) <| sI (aV 6) (sR (tS 3 tI) [(aR 0 [i0])]) <| sB (.slice (aR 0 [i0]) none (some (aV 1))) <| sB (.app 8 (.nil (tS 3 tI)) (aV 7)) <| sB (.lst 3 tI [[(aR 0 [i1])]]) <| sB (.app 8 (aV 8) (aV 9)) <| sB (.slice (aR 0 [i0]) (some (aV 1)) none) <| sB (.app 8 (aV 10) (aV 11)) <| sR (tS 3 tI) [(aV 12)]) <| sB (.slice (aR 0 [i0]) none (some (aV 1))) <| sB (.app 8 (.nil (tS 3 tI)) (aV 4)) <| sB (.lst 3 tI [[(aR 0 [i1])]]) <| sB (.app 8 (aV 5) (aV 6)) <| sB (.slice (aR 0 [i0]) (some (aV 1)) none) <| sB (.app 8 (aV 7) (aV 8)) <| sR (tS 3 tI) [(aV 9)]
noncomputable def fn161 (x : sg161.p.den) : Option sg161.r.den := st161.den [] [] sg161.r [⟨sg161.p, x⟩]
theorem spec161 : CallSpec Try.prog sg161 fn161 := spec (ss := []) (an := an161) (stm := st161) follows (Specs.nil) (by kernel_rfl) (by kernel_rfl) (fun _ => rfl)
theorem eq161 : fn161 = Pf.impl_insertInt := by kernel_rfl
-- laws.eqLe
def sg162 : Sig := ⟨162,162,[.val i1 (tP tI tI),.val i1 (tP tI tI)],[.val i0 tB i1]⟩
def an162 : Ann := ⟨15,[],[],[],[],[]⟩
def st162 : Stm := sB (.cmp .ne i6 (aR 0 [i0,i0]) (aR 0 [i1,i0])) <| sI (aV 1) (sR tB [(.bool false)]) <| sB (.cmp .ne i6 (aR 0 [i0,i1]) (aR 0 [i1,i1])) <| sI (aV 2) (sR tB [(.bool false)]) <| sR tB [(.bool true)]
noncomputable def fn162 (x : sg162.p.den) : Option sg162.r.den := st162.den [] [] sg162.r [⟨sg162.p, x⟩]
theorem spec162 : CallSpec Try.prog sg162 fn162 := spec (ss := []) (an := an162) (stm := st162) follows (Specs.nil) (by kernel_rfl) (by kernel_rfl) (fun _ => rfl)
theorem eq162 : fn162 = Pf.laws_eqLe := by kernel_rfl
-- spec.l02Full
def sg166 : Sig := ⟨166,166,[.val i0 tI],[.val i0 tI i1]⟩
def an166 : Ann := ⟨7,[],[],[],[],[]⟩
def st166 : Stm := sB (.shift i1 .u64 (.int .u64 1) (aV 0)) <| sB (.shift i1 i6 (aI 1) (aV 1)) <| sB (.bin .sub i6 (aV 2) (aI 1)) <| sR tI [(aV 3)]
noncomputable def fn166 (x : sg166.p.den) : Option sg166.r.den := st166.den [] [] sg166.r [⟨sg166.p, x⟩]
theorem spec166 : CallSpec Try.prog sg166 fn166 := spec (ss := []) (an := an166) (stm := st166) follows (Specs.nil) (by kernel_rfl) (by kernel_rfl) (fun _ => rfl)
theorem eq166 : fn166 = Pf.spec_l02Full := by kernel_rfl
-- spec.l27Sort
def sg167 : Sig := ⟨167,167,[.val i0 (tS 3 tI)],[.val i0 (tS 3 tI) i0]⟩
def an167 : Ann := ⟨51,[(6,[0,1,2,3,4,5,6,7,8,9,10,11,12,13])],[],[(2,(tP tI (tS 3 tI)),[(3,(.c (.h 0))),(4,(sW (aR 2 [i0]))),(5,(sW (aR 5 [i0])))],[(.list 3 tI (aR 5 [i1]) i0 none)]),(0,(tP tI (tS 3 tI)),[(3,(.c (.h 0))),(4,(sW (aR 2 [i0])))],[(.list 3 tI (aR 2 [i1]) i0 none)])],[(2,(tS 3 tI),[(3,(.c (.h 0))),(4,(sW (aR 2 [i0])))],[(.list 3 tI (aV 5) i0 none)])],[]⟩
def st167 : Stm := sB (.app 8 (.nil (tS 3 tI)) (aV 0)) <| sL (tP tI (tS 3 tI)) [(aI 1),(aV 1)] <| sB (.len (aR 2 [i1])) <| sB (.cmp .lt i6 (aR 2 [i0]) (aV 3)) <| sI (aV 4) (sJ (tS 3 tI) (sL (tP tI (tS 3 tI)) [(aR 2 [i0]),(aR 2 [i1])] <| sB (.cmp .gt i6 (aR 5 [i0]) (aI 0)) <| sI (aV 6) (sB (.idx (aR 5 [i1]) (aR 5 [i0])) <| sB (.get (aR 5 [i1]) (aR 5 [i0])) <| sB (.bin .sub i6 (aR 5 [i0]) (aI 1)) <| sB (.idx (aR 5 [i1]) (aV 9)) <| sB (.get (aR 5 [i1]) (aV 9)) <| sB (.cmp .lt i6 (aV 8) (aV 11)) <| sI (aV 12) (sB (.idx (aR 5 [i1]) (aR 5 [i0])) <| sB (.get (aR 5 [i1]) (aR 5 [i0])) <| sB (.bin .sub i6 (aR 5 [i0]) (aI 1)) <| sB (.idx (aR 5 [i1]) (aV 15)) <| sB (.get (aR 5 [i1]) (aV 15)) <| sB (.idx (aR 5 [i1]) (aR 5 [i0])) <| sB (.get (aR 5 [i1]) (aR 5 [i0])) <| sB (.mk tI [(aV 17)]) <| sB (.set (aR 5 [i1]) (aR 5 [i0]) (aV 20)) <| sB (.bin .sub i6 (aR 5 [i0]) (aI 1)) <| sB (.idx (aV 21) (aV 22)) <| sB (.get (aV 21) (aV 22)) <| sB (.mk tI [(aV 14)]) <| sB (.set (aV 21) (aV 22) (aV 25)) <| sB (.bin .sub i6 (aR 5 [i0]) (aI 1)) <| sN (tP tI (tS 3 tI)) [(aV 27),(aV 26)]) <| sU <| sN (tS 3 tI) [(aR 5 [i1])]) <| sU <| sN (tS 3 tI) [(aR 5 [i1])]) <| sB (.bin .add i6 (aR 2 [i0]) (aI 1)) <| sN (tP tI (tS 3 tI)) [(aV 6),(aV 5)]) <| sU <| sR (tS 3 tI) [(aR 2 [i1])]
noncomputable def fn167 (x : sg167.p.den) : Option sg167.r.den := st167.den [] [] sg167.r [⟨sg167.p, x⟩]
theorem spec167 : CallSpec Try.prog sg167 fn167 := spec (ss := []) (an := an167) (stm := st167) follows (Specs.nil) (by kernel_rfl) (by kernel_rfl) (fun _ => rfl)
theorem eq167 : fn167 = Pf.spec_l27Sort := by kernel_rfl
-- laws.szBlock
def sg46 : Sig := ⟨46,46,[.val i1 (tP tI (tP tI (tS 60 (tP tI tI)))),.val i0 tI],[.val i0 tI i1]⟩
def an46 : Ann := ⟨12,[],[],[],[],[]⟩
def st46 : Stm := sB (.call 118 [(aR 0 [i0,i1,i1]),(aR 0 [i1])]) <| sB (.cmp .lt i6 (aV 1) (aI 0)) <| sI (aV 2) (sR tI [(aI (-1))]) <| sR tI [(aV 1)]
noncomputable def fn46 (x : sg46.p.den) : Option sg46.r.den := st46.den [⟨sg118.key, sg118.p, sg118.r, fn118⟩] [] sg46.r [⟨sg46.p, x⟩]
theorem spec46 : CallSpec Try.prog sg46 fn46 := spec (ss := [sg118]) (an := an46) (stm := st46) follows (Specs.cons spec118 (Specs.nil) (by kernel_rfl)) (by kernel_rfl) (by kernel_rfl) (fun _ => rfl)
theorem eq46 : fn46 = Pf.laws_szBlock := by kernel_rfl
-- laws.markBlock
def sg51 : Sig := ⟨51,51,[.own i1 (tP tI (tP tI (tS 62 (tP tI tI)))) i1,.val i0 tI],[.val i0 tI i1]⟩
def an51 : Ann := ⟨10,[],[],[],[],[]⟩
def st51 : Stm := sB (.call 124 [(aR 0 [i0,i1,i1]),(aR 0 [i1])]) <| sR (tP tI (tS 62 (tP tI tI))) [(aR 1 [i0]),(aR 1 [i1])]
noncomputable def fn51 (x : sg51.p.den) : Option sg51.r.den := st51.den [⟨sg124.key, sg124.p, sg124.r, fn124⟩] [] sg51.r [⟨sg51.p, x⟩]
theorem spec51 : CallSpec Try.prog sg51 fn51 := spec (ss := [sg124]) (an := an51) (stm := st51) follows (Specs.cons spec124 (Specs.nil) (by kernel_rfl)) (by kernel_rfl) (by kernel_rfl) (fun _ => rfl)
theorem eq51 : fn51 = Pf.laws_markBlock := by kernel_rfl
-- spec.LutNodes
def sg101 : Sig := ⟨101,101,[.val i1 (tP tI (tP (tS 145 (tP tI (tP tI (tS 3 tI)))) (tP (tS 168 (tP (tS 3 tI) tI)) (tS 3 tI))))],[.val i0 tI i1]⟩
def an101 : Ann := ⟨36,[],[],[],[],[]⟩
def st101 : Stm := sB (.call 72 [(aR 0 [i0]),(aI 0),(aI 20)]) <| sB (.not (aV 1)) <| sI (aV 2) (sR tI [(aI 0)]) <| sB (.len (aR 0 [i1,i0])) <| sB (.cmp .gt i6 (aV 3) (aI 12)) <| sI (aV 4) (sR tI [(aI 0)]) <| sB (.len (aR 0 [i1,i1,i0])) <| sB (.cmp .gt i6 (aV 5) (aI 400)) <| sI (aV 6) (sR tI [(aI 0)]) <| sB (.len (aR 0 [i1,i1,i1])) <| sB (.cmp .gt i6 (aV 7) (aI 16)) <| sI (aV 8) (sR tI [(aI 0)]) <| sB (.bin .add i6 (aI 1) (aR 0 [i0])) <| sB (.len (aR 0 [i1,i0])) <| sB (.bin .add i6 (aV 9) (aV 10)) <| sB (.len (aR 0 [i1,i1,i0])) <| sB (.bin .add i6 (aV 11) (aV 12)) <| sR tI [(aV 13)]
noncomputable def fn101 (x : sg101.p.den) : Option sg101.r.den := st101.den [⟨sg72.key, sg72.p, sg72.r, fn72⟩] [] sg101.r [⟨sg101.p, x⟩]
theorem spec101 : CallSpec Try.prog sg101 fn101 := spec (ss := [sg72]) (an := an101) (stm := st101) follows (Specs.cons spec72 (Specs.nil) (by kernel_rfl)) (by kernel_rfl) (by kernel_rfl) (fun _ => rfl)
theorem eq101 : fn101 = Pf.spec_LutNodes := by kernel_rfl
-- impl.useCounts
def sg107 : Sig := ⟨107,107,[.val i1 (tP tI (tP (tS 145 (tP tI (tP tI (tS 3 tI)))) (tP (tS 168 (tP (tS 3 tI) tI)) (tS 3 tI))))],[.val i0 (tS 3 tI) i0]⟩
def an107 : Ann := ⟨76,[],[],[(2,(tP tI (tS 3 tI)),[(1,(.c (.h 0))),(3,(.c (.h 1))),(18,(.c (.s none (aR 0 [i1,i1,i0])))),(19,(sW (aV 3))),(20,(sW (aR 4 [i0]))),(25,(.c (.s none (aR 6 [i0])))),(26,(sW (aV 7))),(27,(sW (aR 8 [i0])))],[(.box 55 [(sV (aR 0 [i0])),(.s none (aR 0 [i1,i0])),(.s none (aR 0 [i1,i1,i0])),(.s none (aR 0 [i1,i1,i1]))]),(.list 3 tI (aR 8 [i1]) i0 none),.dead]),(0,(tP tI (tS 3 tI)),[(1,(.c (.h 0))),(3,(.c (.h 1))),(18,(.c (.s none (aR 0 [i1,i1,i0])))),(19,(sW (aV 3))),(20,(sW (aR 4 [i0])))],[(.box 55 [(sV (aR 0 [i0])),(.s none (aR 0 [i1,i0])),(.s none (aR 0 [i1,i1,i0])),(.s none (aR 0 [i1,i1,i1]))]),(.list 3 tI (aR 4 [i1]) i0 none)]),(6,(tP tI (tS 3 tI)),[(1,(.c (.h 0))),(3,(.c (.h 1))),(40,(.c (.s none (aR 0 [i1,i0])))),(41,(sW (aV 6))),(42,(sW (aR 7 [i0]))),(47,(.c (.s none (aR 9 [i1,i1])))),(48,(sW (aV 10))),(49,(sW (aR 11 [i0])))],[(.box 55 [(sV (aR 0 [i0])),(.s none (aR 0 [i1,i0])),(.s none (aR 0 [i1,i1,i0])),(.s none (aR 0 [i1,i1,i1]))]),(.list 3 tI (aR 11 [i1]) i0 none),.dead]),(4,(tP tI (tS 3 tI)),[(1,(.c (.h 0))),(3,(.c (.h 1))),(40,(.c (.s none (aR 0 [i1,i0])))),(41,(sW (aV 6))),(42,(sW (aR 7 [i0])))],[(.box 55 [(sV (aR 0 [i0])),(.s none (aR 0 [i1,i0])),(.s none (aR 0 [i1,i1,i0])),(.s none (aR 0 [i1,i1,i1]))]),(.list 3 tI (aR 7 [i1]) i0 none)]),(8,(tP tI (tS 3 tI)),[(3,(.c (.h 1))),(62,(.c (.s none (aR 0 [i1,i1,i1])))),(63,(sW (aV 9))),(64,(sW (aR 10 [i0])))],[.dead,(.list 3 tI (aR 10 [i1]) i0 none)])],[],[]⟩
def st107 : Stm := sB (.call 106 [(aR 0 [i0]),(aR 0 [i1,i0]),(aR 0 [i1,i1,i0]),(aR 0 [i1,i1,i1])]) <| sB (.make 8 3 tI (aV 1)) <| sB (.len (aR 0 [i1,i1,i0])) <| sL (tP tI (tS 3 tI)) [(aI 0),(aV 2)] <| sB (.cmp .lt i6 (aR 4 [i0]) (aV 3)) <| sI (aV 5) (sB (.get (aR 0 [i1,i1,i0]) (aR 4 [i0])) <| sB (.len (aR 6 [i0])) <| sL (tP tI (tS 3 tI)) [(aI 0),(aR 4 [i1])] <| sB (.cmp .lt i6 (aR 8 [i0]) (aV 7)) <| sI (aV 9) (sB (.get (aR 6 [i0]) (aR 8 [i0])) <| sB (.idx (aR 8 [i1]) (aV 10)) <| sB (.get (aR 8 [i1]) (aV 10)) <| sB (.bin .add i6 (aV 12) (aI 1)) <| sB (.idx (aR 8 [i1]) (aV 10)) <| sB (.get (aR 8 [i1]) (aV 10)) <| sB (.mk tI [(aV 13)]) <| sB (.set (aR 8 [i1]) (aV 10) (aV 16)) <| sB (.bin .add i6 (aR 8 [i0]) (aI 1)) <| sN (tP tI (tS 3 tI)) [(aV 18),(aV 17)]) <| sU <| sB (.bin .add i6 (aR 4 [i0]) (aI 1)) <| sN (tP tI (tS 3 tI)) [(aV 10),(aR 8 [i1])]) <| sU <| sB (.len (aR 0 [i1,i0])) <| sL (tP tI (tS 3 tI)) [(aI 0),(aR 4 [i1])] <| sB (.cmp .lt i6 (aR 7 [i0]) (aV 6)) <| sI (aV 8) (sB (.get (aR 0 [i1,i0]) (aR 7 [i0])) <| sB (.len (aR 9 [i1,i1])) <| sL (tP tI (tS 3 tI)) [(aI 0),(aR 7 [i1])] <| sB (.cmp .lt i6 (aR 11 [i0]) (aV 10)) <| sI (aV 12) (sB (.get (aR 9 [i1,i1]) (aR 11 [i0])) <| sB (.idx (aR 11 [i1]) (aV 13)) <| sB (.get (aR 11 [i1]) (aV 13)) <| sB (.bin .add i6 (aV 15) (aI 1)) <| sB (.idx (aR 11 [i1]) (aV 13)) <| sB (.get (aR 11 [i1]) (aV 13)) <| sB (.mk tI [(aV 16)]) <| sB (.set (aR 11 [i1]) (aV 13) (aV 19)) <| sB (.bin .add i6 (aR 11 [i0]) (aI 1)) <| sN (tP tI (tS 3 tI)) [(aV 21),(aV 20)]) <| sU <| sB (.bin .add i6 (aR 7 [i0]) (aI 1)) <| sN (tP tI (tS 3 tI)) [(aV 13),(aR 11 [i1])]) <| sU <| sB (.len (aR 0 [i1,i1,i1])) <| sL (tP tI (tS 3 tI)) [(aI 0),(aR 7 [i1])] <| sB (.cmp .lt i6 (aR 10 [i0]) (aV 9)) <| sI (aV 11) (sB (.get (aR 0 [i1,i1,i1]) (aR 10 [i0])) <| sB (.idx (aR 10 [i1]) (aV 12)) <| sB (.get (aR 10 [i1]) (aV 12)) <| sB (.bin .add i6 (aV 14) (aI 1)) <| sB (.idx (aR 10 [i1]) (aV 12)) <| sB (.get (aR 10 [i1]) (aV 12)) <| sB (.mk tI [(aV 15)]) <| sB (.set (aR 10 [i1]) (aV 12) (aV 18)) <| sB (.bin .add i6 (aR 10 [i0]) (aI 1)) <| sN (tP tI (tS 3 tI)) [(aV 20),(aV 19)]) <| sU <| sR (tS 3 tI) [(aR 10 [i1])]
noncomputable def fn107 (x : sg107.p.den) : Option sg107.r.den := st107.den [⟨sg106.key, sg106.p, sg106.r, fn106⟩] [] sg107.r [⟨sg107.p, x⟩]
theorem spec107 : CallSpec Try.prog sg107 fn107 := spec (ss := [sg106]) (an := an107) (stm := st107) follows (Specs.cons spec106 (Specs.nil) (by kernel_rfl)) (by kernel_rfl) (by kernel_rfl) (fun _ => rfl)
theorem eq107 : fn107 = Pf.impl_useCounts := by kernel_rfl
-- spec.l28Out
def sg112 : Sig := ⟨112,112,[.val i1 (tP tI (tP (tS 145 (tP tI (tP tI (tS 3 tI)))) (tP (tS 168 (tP (tS 3 tI) tI)) (tS 3 tI)))),.val i1 (tP tI tI)],[.val i0 tI i1]⟩
def an112 : Ann := ⟨19,[(3,[0,2,3,1,4,5])],[],[],[],[]⟩
def st112 : Stm := sB (.cmp .ge i6 (aR 0 [i1,i1]) (aI 0)) <| sI (aV 1) (sB (.bin .add i6 (aI 1) (aR 0 [i0,i0])) <| sB (.bin .add i6 (aV 2) (aR 0 [i1,i1])) <| sR tI [(aV 3)]) <| sB (.call 150 [(aR 0 [i0,i0]),(aR 0 [i0,i1,i0]),(aR 0 [i0,i1,i1,i0]),(aR 0 [i0,i1,i1,i1])]) <| sB (.bin .add i6 (aV 2) (aR 0 [i1,i0])) <| sR tI [(aV 3)]
noncomputable def fn112 (x : sg112.p.den) : Option sg112.r.den := st112.den [⟨sg150.key, sg150.p, sg150.r, fn150⟩] [] sg112.r [⟨sg112.p, x⟩]
theorem spec112 : CallSpec Try.prog sg112 fn112 := spec (ss := [sg150]) (an := an112) (stm := st112) follows (Specs.cons spec150 (Specs.nil) (by kernel_rfl)) (by kernel_rfl) (by kernel_rfl) (fun _ => rfl)
theorem eq112 : fn112 = Pf.spec_l28Out := by kernel_rfl
-- impl.leOutput
def sg113 : Sig := ⟨113,113,[.val i1 (tP tI (tP (tS 145 (tP tI (tP tI (tS 3 tI)))) (tP (tS 168 (tP (tS 3 tI) tI)) (tS 3 tI)))),.val i1 (tP tI tI)],[.val i0 tI i1]⟩
def an113 : Ann := ⟨19,[(3,[0,2,3,1,4,5])],[],[],[],[]⟩
def st113 : Stm := sB (.cmp .ge i6 (aR 0 [i1,i1]) (aI 0)) <| sI (aV 1) (sB (.bin .add i6 (aI 1) (aR 0 [i0,i0])) <| sB (.bin .add i6 (aV 2) (aR 0 [i1,i1])) <| sR tI [(aV 3)]) <| sB (.call 156 [(aR 0 [i0,i0]),(aR 0 [i0,i1,i0]),(aR 0 [i0,i1,i1,i0]),(aR 0 [i0,i1,i1,i1])]) <| sB (.bin .add i6 (aV 2) (aR 0 [i1,i0])) <| sR tI [(aV 3)]
noncomputable def fn113 (x : sg113.p.den) : Option sg113.r.den := st113.den [⟨sg156.key, sg156.p, sg156.r, fn156⟩] [] sg113.r [⟨sg113.p, x⟩]
theorem spec113 : CallSpec Try.prog sg113 fn113 := spec (ss := [sg156]) (an := an113) (stm := st113) follows (Specs.cons spec156 (Specs.nil) (by kernel_rfl)) (by kernel_rfl) (by kernel_rfl) (fun _ => rfl)
theorem eq113 : fn113 = Pf.impl_leOutput := by kernel_rfl
-- impl.leInputs
def sg115 : Sig := ⟨115,115,[.val i1 (tP tI (tP (tS 145 (tP tI (tP tI (tS 3 tI)))) (tP (tS 168 (tP (tS 3 tI) tI)) (tS 3 tI)))),.val i1 (tP tI tI)],[.val i0 (tS 3 tI) i0]⟩
def an115 : Ann := ⟨39,[],[],[(0,(tP (tS 3 tI) tI),[(6,(.c (.h 2))),(26,(.c (.s none (aV 1)))),(27,(sW (aV 2))),(28,(sW (aR 3 [i1])))],[.dead,.dead,(.list 3 tI (aR 3 [i0]) i0 none)])],[],[(5,(tS 3 tI),[(5,(.c (.s none (aV 1)))),(6,(.c .nil))],[.dead,.dead])]⟩
def st115 : Stm := sJ (tS 3 tI) (sB (.cmp .ge i6 (aR 0 [i1,i0]) (aI 0)) <| sI (aV 1) (sB (.get (aR 0 [i0,i1,i1,i0]) (aR 0 [i1,i0])) <| sN (tS 3 tI) [(aR 2 [i0])]) <| sB (.get (aR 0 [i0,i1,i0]) (aR 0 [i1,i1])) <| sN (tS 3 tI) [(aR 2 [i1,i1])]) <| sB (.len (aV 1)) <| sL (tP (tS 3 tI) tI) [(.nil (tS 3 tI)),(aI 0)] <| sB (.cmp .lt i6 (aR 3 [i1]) (aV 2)) <| sI (aV 4) (sB (.get (aV 1) (aR 3 [i1])) <| sB (.cmp .ne i6 (aV 5) (aI 0)) <| sI (aV 6) (sB (.call 161 [(aR 3 [i0]),(aV 5)]) <| sB (.bin .add i6 (aR 3 [i1]) (aI 1)) <| sN (tP (tS 3 tI) tI) [(aV 7),(aV 8)]) <| sB (.bin .add i6 (aR 3 [i1]) (aI 1)) <| sN (tP (tS 3 tI) tI) [(aR 3 [i0]),(aV 7)]) <| sU <| sR (tS 3 tI) [(aR 3 [i0])]
noncomputable def fn115 (x : sg115.p.den) : Option sg115.r.den := st115.den [⟨sg161.key, sg161.p, sg161.r, fn161⟩] [] sg115.r [⟨sg115.p, x⟩]
theorem spec115 : CallSpec Try.prog sg115 fn115 := spec (ss := [sg161]) (an := an115) (stm := st115) follows (Specs.cons spec161 (Specs.nil) (by kernel_rfl)) (by kernel_rfl) (by kernel_rfl) (fun _ => rfl)
theorem eq115 : fn115 = Pf.impl_leInputs := by kernel_rfl
-- laws.markSeqS
def sg116 : Sig := ⟨116,116,[.own i0 (tS 145 (tP tI (tP tI (tS 3 tI)))) i1,.val i0 tI],[.val i0 tI i1]⟩
def an116 : Ann := ⟨34,[],[],[(0,(tP tI (tP tI (tS 145 (tP tI (tP tI (tS 3 tI)))))),[(0,(.c (.h 0))),(1,(sW (aR 1 [i0]))),(5,(sW (aR 1 [i1,i0])))],[(.list 145 (tP tI (tP tI (tS 3 tI))) (aR 1 [i1,i1]) i0 none)])],[],[]⟩
def st116 : Stm := sL (tP tI (tP tI (tS 145 (tP tI (tP tI (tS 3 tI)))))) [(aR 0 [i1]),(aI 0),(aR 0 [i0])] <| sB (.len (aR 1 [i1,i1])) <| sB (.cmp .lt i6 (aR 1 [i1,i0]) (aV 2)) <| sI (aV 3) (sB (.idx (aR 1 [i1,i1]) (aR 1 [i1,i0])) <| sB (.get (aR 1 [i1,i1]) (aR 1 [i1,i0])) <| sB (.mk (tP tI (tP tI (tS 3 tI))) [(aR 1 [i0]),(aR 5 [i1,i0]),(aR 5 [i1,i1])]) <| sB (.set (aR 1 [i1,i1]) (aR 1 [i1,i0]) (aV 6)) <| sB (.bin .add i6 (aR 1 [i0]) (aI 1)) <| sB (.idx (aV 7) (aR 1 [i1,i0])) <| sB (.get (aV 7) (aR 1 [i1,i0])) <| sB (.mk (tP tI (tP tI (tS 3 tI))) [(aR 10 [i0]),(aV 8),(aR 10 [i1,i1])]) <| sB (.set (aV 7) (aR 1 [i1,i0]) (aV 11)) <| sB (.bin .add i6 (aV 8) (aI 1)) <| sB (.idx (aV 12) (aR 1 [i1,i0])) <| sB (.get (aV 12) (aR 1 [i1,i0])) <| sB (.get (aV 12) (aR 1 [i1,i0])) <| sB (.call 24 [(aR 16 [i1,i1]),(aV 13)]) <| sB (.get (aV 12) (aR 1 [i1,i0])) <| sB (.mk (tP tI (tP tI (tS 3 tI))) [(aR 18 [i0]),(aR 18 [i1,i0]),(aR 17 [i1])]) <| sB (.set (aV 12) (aR 1 [i1,i0]) (aV 19)) <| sB (.bin .add i6 (aR 1 [i1,i0]) (aI 1)) <| sN (tP tI (tP tI (tS 145 (tP tI (tP tI (tS 3 tI)))))) [(aR 17 [i0]),(aV 21),(aV 20)]) <| sU <| sR (tP tI (tS 145 (tP tI (tP tI (tS 3 tI))))) [(aR 1 [i0]),(aR 1 [i1,i1])]
noncomputable def fn116 (x : sg116.p.den) : Option sg116.r.den := st116.den [⟨sg24.key, sg24.p, sg24.r, fn24⟩] [] sg116.r [⟨sg116.p, x⟩]
theorem spec116 : CallSpec Try.prog sg116 fn116 := spec (ss := [sg24]) (an := an116) (stm := st116) follows (Specs.cons spec24 (Specs.nil) (by kernel_rfl)) (by kernel_rfl) (by kernel_rfl) (fun _ => rfl)
theorem eq116 : fn116 = Pf.laws_markSeqS := by kernel_rfl
-- laws.markLutS
def sg117 : Sig := ⟨117,117,[.own i0 (tS 168 (tP (tS 3 tI) tI)) i1,.val i0 tI],[.val i0 tI i1]⟩
def an117 : Ann := ⟨27,[],[],[(0,(tP tI (tP tI (tS 168 (tP (tS 3 tI) tI)))),[(0,(.c (.h 0))),(1,(sW (aR 1 [i0]))),(5,(sW (aR 1 [i1,i0])))],[(.list 168 (tP (tS 3 tI) tI) (aR 1 [i1,i1]) i0 none)])],[],[]⟩
def st117 : Stm := sL (tP tI (tP tI (tS 168 (tP (tS 3 tI) tI)))) [(aR 0 [i1]),(aI 0),(aR 0 [i0])] <| sB (.len (aR 1 [i1,i1])) <| sB (.cmp .lt i6 (aR 1 [i1,i0]) (aV 2)) <| sI (aV 3) (sB (.idx (aR 1 [i1,i1]) (aR 1 [i1,i0])) <| sB (.get (aR 1 [i1,i1]) (aR 1 [i1,i0])) <| sB (.get (aR 1 [i1,i1]) (aR 1 [i1,i0])) <| sB (.call 24 [(aR 6 [i0]),(aR 1 [i0])]) <| sB (.get (aR 1 [i1,i1]) (aR 1 [i1,i0])) <| sB (.mk (tP (tS 3 tI) tI) [(aR 7 [i1]),(aR 8 [i1])]) <| sB (.set (aR 1 [i1,i1]) (aR 1 [i1,i0]) (aV 9)) <| sB (.idx (aV 10) (aR 1 [i1,i0])) <| sB (.get (aV 10) (aR 1 [i1,i0])) <| sB (.mk (tP (tS 3 tI) tI) [(aR 12 [i0]),(aR 7 [i0])]) <| sB (.set (aV 10) (aR 1 [i1,i0]) (aV 13)) <| sB (.bin .add i6 (aR 7 [i0]) (aI 1)) <| sB (.bin .add i6 (aR 1 [i1,i0]) (aI 1)) <| sN (tP tI (tP tI (tS 168 (tP (tS 3 tI) tI)))) [(aV 15),(aV 16),(aV 14)]) <| sU <| sR (tP tI (tS 168 (tP (tS 3 tI) tI))) [(aR 1 [i0]),(aR 1 [i1,i1])]
noncomputable def fn117 (x : sg117.p.den) : Option sg117.r.den := st117.den [⟨sg24.key, sg24.p, sg24.r, fn24⟩] [] sg117.r [⟨sg117.p, x⟩]
theorem spec117 : CallSpec Try.prog sg117 fn117 := spec (ss := [sg24]) (an := an117) (stm := st117) follows (Specs.cons spec24 (Specs.nil) (by kernel_rfl)) (by kernel_rfl) (by kernel_rfl) (fun _ => rfl)
theorem eq117 : fn117 = Pf.laws_markLutS := by kernel_rfl
-- laws.toLeS
def sg120 : Sig := ⟨120,120,[.val i0 (tS 60 (tP tI tI))],[.val i0 (tS 62 (tP tI tI)) i0]⟩
def an120 : Ann := ⟨23,[],[],[(0,(tP tI (tS 62 (tP tI tI))),[(0,(.c (.s none (aV 0)))),(3,(.c (.h 0))),(4,(sW (aR 3 [i0])))],[(.list 62 (tP tI tI) (aR 3 [i1]) i0 none)])],[],[]⟩
def st120 : Stm := sB (.len (aV 0)) <| sB (.make 16 62 (tP tI tI) (aV 1)) <| sL (tP tI (tS 62 (tP tI tI))) [(aI 0),(aV 2)] <| sB (.len (aV 0)) <| sB (.cmp .lt i6 (aR 3 [i0]) (aV 4)) <| sI (aV 5) (sB (.get (aV 0) (aR 3 [i0])) <| sB (.call 39 [(aR 6 [i0]),(aR 6 [i1])]) <| sB (.idx (aR 3 [i1]) (aR 3 [i0])) <| sB (.get (aR 3 [i1]) (aR 3 [i0])) <| sB (.mk (tP tI tI) [(aR 7 [i0]),(aR 7 [i1])]) <| sB (.set (aR 3 [i1]) (aR 3 [i0]) (aV 10)) <| sB (.bin .add i6 (aR 3 [i0]) (aI 1)) <| sN (tP tI (tS 62 (tP tI tI))) [(aV 12),(aV 11)]) <| sU <| sR (tS 62 (tP tI tI)) [(aR 3 [i1])]
noncomputable def fn120 (x : sg120.p.den) : Option sg120.r.den := st120.den [⟨sg39.key, sg39.p, sg39.r, fn39⟩] [] sg120.r [⟨sg120.p, x⟩]
theorem spec120 : CallSpec Try.prog sg120 fn120 := spec (ss := [sg39]) (an := an120) (stm := st120) follows (Specs.cons spec39 (Specs.nil) (by kernel_rfl)) (by kernel_rfl) (by kernel_rfl) (fun _ => rfl)
theorem eq120 : fn120 = Pf.laws_toLeS := by kernel_rfl
-- laws.eqLeS
def sg123 : Sig := ⟨123,123,[.val i0 (tS 62 (tP tI tI)),.val i0 (tS 62 (tP tI tI))],[.val i0 tB i1]⟩
def an123 : Ann := ⟨27,[(6,[0,1,2,3,4,5,6,7,8,9])],[],[(0,tI,[(0,(.c (.s none (aR 0 [i0])))),(1,(.c (.s none (aR 0 [i1])))),(5,(sW (aV 4)))],[])],[],[]⟩
def st123 : Stm := sB (.len (aR 0 [i0])) <| sB (.len (aR 0 [i1])) <| sB (.cmp .ne i6 (aV 1) (aV 2)) <| sI (aV 3) (sR tB [(.bool false)]) <| sL tI [(aI 0)] <| sB (.len (aR 0 [i0])) <| sB (.cmp .lt i6 (aV 4) (aV 5)) <| sI (aV 6) (sB (.get (aR 0 [i0]) (aV 4)) <| sB (.get (aR 0 [i1]) (aV 4)) <| sB (.call 162 [(aR 7 [i0]),(aR 7 [i1]),(aR 8 [i0]),(aR 8 [i1])]) <| sB (.not (aV 9)) <| sI (aV 10) (sU <| sR tB [(.bool false)]) <| sB (.bin .add i6 (aV 4) (aI 1)) <| sN tI [(aV 11)]) <| sU <| sR tB [(.bool true)]
noncomputable def fn123 (x : sg123.p.den) : Option sg123.r.den := st123.den [⟨sg162.key, sg162.p, sg162.r, fn162⟩] [] sg123.r [⟨sg123.p, x⟩]
theorem spec123 : CallSpec Try.prog sg123 fn123 := spec (ss := [sg162]) (an := an123) (stm := st123) follows (Specs.cons spec162 (Specs.nil) (by kernel_rfl)) (by kernel_rfl) (by kernel_rfl) (fun _ => rfl)
theorem eq123 : fn123 = Pf.laws_eqLeS := by kernel_rfl
-- laws.szSeq
def sg146 : Sig := ⟨146,146,[.val i1 (tP tI (tP tI (tS 3 tI))),.val i0 tI],[.val i0 tI i1]⟩
def an146 : Ann := ⟨12,[],[],[],[],[]⟩
def st146 : Stm := sB (.call 99 [(aR 0 [i0,i1,i1]),(aR 0 [i1])]) <| sB (.cmp .lt i6 (aV 1) (aI 0)) <| sI (aV 2) (sR tI [(aI (-1))]) <| sR tI [(aV 1)]
noncomputable def fn146 (x : sg146.p.den) : Option sg146.r.den := st146.den [⟨sg99.key, sg99.p, sg99.r, fn99⟩] [] sg146.r [⟨sg146.p, x⟩]
theorem spec146 : CallSpec Try.prog sg146 fn146 := spec (ss := [sg99]) (an := an146) (stm := st146) follows (Specs.cons spec99 (Specs.nil) (by kernel_rfl)) (by kernel_rfl) (by kernel_rfl) (fun _ => rfl)
theorem eq146 : fn146 = Pf.laws_szSeq := by kernel_rfl
-- laws.szLut
def sg147 : Sig := ⟨147,147,[.val i1 (tP (tS 3 tI) tI),.val i0 tI],[.val i0 tI i1]⟩
def an147 : Ann := ⟨12,[],[],[],[],[]⟩
def st147 : Stm := sB (.call 99 [(aR 0 [i0,i0]),(aR 0 [i1])]) <| sB (.cmp .lt i6 (aV 1) (aI 0)) <| sI (aV 2) (sR tI [(aI (-1))]) <| sR tI [(aV 1)]
noncomputable def fn147 (x : sg147.p.den) : Option sg147.r.den := st147.den [⟨sg99.key, sg99.p, sg99.r, fn99⟩] [] sg147.r [⟨sg147.p, x⟩]
theorem spec147 : CallSpec Try.prog sg147 fn147 := spec (ss := [sg99]) (an := an147) (stm := st147) follows (Specs.cons spec99 (Specs.nil) (by kernel_rfl)) (by kernel_rfl) (by kernel_rfl) (fun _ => rfl)
theorem eq147 : fn147 = Pf.laws_szLut := by kernel_rfl
-- spec.TableOk
def sg149 : Sig := ⟨149,149,[.val i1 (tP tI tI)],[.val i0 tB i1]⟩
def an149 : Ann := ⟨19,[(1,[0,1,2,3,4,5,6,7,8,9,10,11,12,13,14,15,16])],[],[],[],[]⟩
def st149 : Stm := sB (.call 72 [(aR 0 [i0]),(aI 0),(aI 4)]) <| sI (aV 1) (sB (.cmp .ge i6 (aR 0 [i1]) (aI 0)) <| sI (aV 2) (sB (.call 166 [(aR 0 [i0])]) <| sB (.cmp .le i6 (aR 0 [i1]) (aV 3)) <| sR tB [(aV 4)]) <| sR tB [(.bool false)]) <| sR tB [(.bool false)]
noncomputable def fn149 (x : sg149.p.den) : Option sg149.r.den := st149.den [⟨sg72.key, sg72.p, sg72.r, fn72⟩, ⟨sg166.key, sg166.p, sg166.r, fn166⟩] [] sg149.r [⟨sg149.p, x⟩]
theorem spec149 : CallSpec Try.prog sg149 fn149 := spec (ss := [sg72, sg166]) (an := an149) (stm := st149) follows (Specs.cons spec72 (Specs.cons spec166 (Specs.nil) (by kernel_rfl)) (by kernel_rfl)) (by kernel_rfl) (by kernel_rfl) (fun _ => rfl)
theorem eq149 : fn149 = Pf.spec_TableOk := by kernel_rfl
-- laws.toSeq
def sg151 : Sig := ⟨151,151,[.val i1 (tP tI (tP tI (tS 3 tI)))],[.val i1 (tP tI (tP tI (tS 3 tI))) i0]⟩
def an151 : Ann := ⟨15,[],[],[],[],[]⟩
def st151 : Stm := sB (.call 18 [(aR 0 [i1,i1])]) <| sR (tP tI (tP tI (tS 3 tI))) [(aR 0 [i0]),(aR 0 [i1,i0]),(aV 1)]
noncomputable def fn151 (x : sg151.p.den) : Option sg151.r.den := st151.den [⟨sg18.key, sg18.p, sg18.r, fn18⟩] [] sg151.r [⟨sg151.p, x⟩]
theorem spec151 : CallSpec Try.prog sg151 fn151 := spec (ss := [sg18]) (an := an151) (stm := st151) follows (Specs.cons spec18 (Specs.nil) (by kernel_rfl)) (by kernel_rfl) (by kernel_rfl) (fun _ => rfl)
theorem eq151 : fn151 = Pf.laws_toSeq := by kernel_rfl
-- laws.toLut
def sg152 : Sig := ⟨152,152,[.val i1 (tP (tS 3 tI) tI)],[.val i1 (tP (tS 3 tI) tI) i0]⟩
def an152 : Ann := ⟨12,[],[],[],[],[]⟩
def st152 : Stm := sB (.call 18 [(aR 0 [i0])]) <| sR (tP (tS 3 tI) tI) [(aV 1),(aR 0 [i1])]
noncomputable def fn152 (x : sg152.p.den) : Option sg152.r.den := st152.den [⟨sg18.key, sg18.p, sg18.r, fn18⟩] [] sg152.r [⟨sg152.p, x⟩]
theorem spec152 : CallSpec Try.prog sg152 fn152 := spec (ss := [sg18]) (an := an152) (stm := st152) follows (Specs.cons spec18 (Specs.nil) (by kernel_rfl)) (by kernel_rfl) (by kernel_rfl) (fun _ => rfl)
theorem eq152 : fn152 = Pf.laws_toLut := by kernel_rfl
-- impl.LutNodes
def sg153 : Sig := ⟨153,153,[.val i1 (tP tI (tP (tS 145 (tP tI (tP tI (tS 3 tI)))) (tP (tS 168 (tP (tS 3 tI) tI)) (tS 3 tI))))],[.val i0 tI i1]⟩
def an153 : Ann := ⟨27,[],[],[],[],[]⟩
def st153 : Stm := sB (.call 78 [(aR 0 [i0]),(aI 0),(aI 20)]) <| sB (.not (aV 1)) <| sI (aV 2) (sR tI [(aI 0)]) <| sB (.len (aR 0 [i1,i0])) <| sB (.cmp .gt i6 (aV 3) (aI 12)) <| sI (aV 4) (sR tI [(aI 0)]) <| sB (.len (aR 0 [i1,i1,i0])) <| sB (.cmp .gt i6 (aV 5) (aI 400)) <| sI (aV 6) (sR tI [(aI 0)]) <| sB (.len (aR 0 [i1,i1,i1])) <| sB (.cmp .gt i6 (aV 7) (aI 16)) <| sI (aV 8) (sR tI [(aI 0)]) <| sB (.call 106 [(aR 0 [i0]),(aR 0 [i1,i0]),(aR 0 [i1,i1,i0]),(aR 0 [i1,i1,i1])]) <| sR tI [(aV 9)]
noncomputable def fn153 (x : sg153.p.den) : Option sg153.r.den := st153.den [⟨sg78.key, sg78.p, sg78.r, fn78⟩, ⟨sg106.key, sg106.p, sg106.r, fn106⟩] [] sg153.r [⟨sg153.p, x⟩]
theorem spec153 : CallSpec Try.prog sg153 fn153 := spec (ss := [sg78, sg106]) (an := an153) (stm := st153) follows (Specs.cons spec78 (Specs.cons spec106 (Specs.nil) (by kernel_rfl)) (by kernel_rfl)) (by kernel_rfl) (by kernel_rfl) (fun _ => rfl)
theorem eq153 : fn153 = Pf.impl_LutNodes := by kernel_rfl
-- impl.nodesBelow
def sg154 : Sig := ⟨154,154,[.val i0 (tS 3 tI),.val i0 tI],[.val i0 tB i1]⟩
def an154 : Ann := ⟨19,[],[],[(0,tI,[(1,(sW (aR 0 [i1]))),(7,(.c (.s none (aR 0 [i0])))),(8,(sW (aV 1))),(9,(sW (aV 2)))],[])],[],[]⟩
def st154 : Stm := sB (.len (aR 0 [i0])) <| sL tI [(aI 0)] <| sB (.cmp .lt i6 (aV 2) (aV 1)) <| sI (aV 3) (sB (.get (aR 0 [i0]) (aV 2)) <| sB (.bin .sub i6 (aR 0 [i1]) (aI 1)) <| sB (.call 78 [(aV 4),(aI 0),(aV 5)]) <| sB (.not (aV 6)) <| sI (aV 7) (sU <| sR tB [(.bool false)]) <| sB (.bin .add i6 (aV 2) (aI 1)) <| sN tI [(aV 8)]) <| sU <| sR tB [(.bool true)]
noncomputable def fn154 (x : sg154.p.den) : Option sg154.r.den := st154.den [⟨sg78.key, sg78.p, sg78.r, fn78⟩] [] sg154.r [⟨sg154.p, x⟩]
theorem spec154 : CallSpec Try.prog sg154 fn154 := spec (ss := [sg78]) (an := an154) (stm := st154) follows (Specs.cons spec78 (Specs.nil) (by kernel_rfl)) (by kernel_rfl) (by kernel_rfl) (fun _ => rfl)
theorem eq154 : fn154 = Pf.impl_nodesBelow := by kernel_rfl
-- impl.seqOk
def sg155 : Sig := ⟨155,155,[.val i1 (tP tI (tP tI (tS 3 tI)))],[.val i0 tB i1]⟩
def an155 : Ann := ⟨27,[],[],[],[],[]⟩
def st155 : Stm := sB (.cmp .eq i6 (aR 0 [i0]) (aI 0)) <| sI (aV 1) (sB (.call 78 [(aR 0 [i1,i0]),(aI 0),(aI 1)]) <| sI (aV 2) (sB (.len (aR 0 [i1,i1])) <| sB (.cmp .eq i6 (aV 3) (aI 1)) <| sR tB [(aV 4)]) <| sR tB [(.bool false)]) <| sB (.cmp .eq i6 (aR 0 [i0]) (aI 1)) <| sI (aV 2) (sB (.call 78 [(aR 0 [i1,i0]),(aI 0),(aI 31)]) <| sI (aV 3) (sB (.len (aR 0 [i1,i1])) <| sB (.cmp .eq i6 (aV 4) (aI 4)) <| sR tB [(aV 5)]) <| sR tB [(.bool false)]) <| sR tB [(.bool false)]
noncomputable def fn155 (x : sg155.p.den) : Option sg155.r.den := st155.den [⟨sg78.key, sg78.p, sg78.r, fn78⟩] [] sg155.r [⟨sg155.p, x⟩]
theorem spec155 : CallSpec Try.prog sg155 fn155 := spec (ss := [sg78]) (an := an155) (stm := st155) follows (Specs.cons spec78 (Specs.nil) (by kernel_rfl)) (by kernel_rfl) (by kernel_rfl) (fun _ => rfl)
theorem eq155 : fn155 = Pf.impl_seqOk := by kernel_rfl
-- impl.TableOk
def sg157 : Sig := ⟨157,157,[.val i1 (tP tI tI)],[.val i0 tB i1]⟩
def an157 : Ann := ⟨17,[],[],[],[],[]⟩
def st157 : Stm := sB (.call 78 [(aR 0 [i0]),(aI 0),(aI 4)]) <| sI (aV 1) (sB (.conv i6 .u64 (aR 0 [i0])) <| sB (.shift i1 .u64 (.int .u64 1) (aV 2)) <| sB (.shift i1 i6 (aI 1) (aV 3)) <| sB (.bin .sub i6 (aV 4) (aI 1)) <| sB (.call 78 [(aR 0 [i1]),(aI 0),(aV 5)]) <| sR tB [(aV 6)]) <| sR tB [(.bool false)]
noncomputable def fn157 (x : sg157.p.den) : Option sg157.r.den := st157.den [⟨sg78.key, sg78.p, sg78.r, fn78⟩] [] sg157.r [⟨sg157.p, x⟩]
theorem spec157 : CallSpec Try.prog sg157 fn157 := spec (ss := [sg78]) (an := an157) (stm := st157) follows (Specs.cons spec78 (Specs.nil) (by kernel_rfl)) (by kernel_rfl) (by kernel_rfl) (fun _ => rfl)
theorem eq157 : fn157 = Pf.impl_TableOk := by kernel_rfl
-- laws.eqSeq
def sg158 : Sig := ⟨158,158,[.val i1 (tP tI (tP tI (tS 3 tI))),.val i1 (tP tI (tP tI (tS 3 tI)))],[.val i0 tB i1]⟩
def an158 : Ann := ⟨21,[],[],[],[],[]⟩
def st158 : Stm := sB (.cmp .ne i6 (aR 0 [i0,i0]) (aR 0 [i1,i0])) <| sI (aV 1) (sR tB [(.bool false)]) <| sB (.cmp .ne i6 (aR 0 [i0,i1,i0]) (aR 0 [i1,i1,i0])) <| sI (aV 2) (sR tB [(.bool false)]) <| sB (.call 22 [(aR 0 [i0,i1,i1]),(aR 0 [i1,i1,i1])]) <| sB (.not (aV 3)) <| sI (aV 4) (sR tB [(.bool false)]) <| sR tB [(.bool true)]
noncomputable def fn158 (x : sg158.p.den) : Option sg158.r.den := st158.den [⟨sg22.key, sg22.p, sg22.r, fn22⟩] [] sg158.r [⟨sg158.p, x⟩]
theorem spec158 : CallSpec Try.prog sg158 fn158 := spec (ss := [sg22]) (an := an158) (stm := st158) follows (Specs.cons spec22 (Specs.nil) (by kernel_rfl)) (by kernel_rfl) (by kernel_rfl) (fun _ => rfl)
theorem eq158 : fn158 = Pf.laws_eqSeq := by kernel_rfl
-- laws.eqLut
def sg159 : Sig := ⟨159,159,[.val i1 (tP (tS 3 tI) tI),.val i1 (tP (tS 3 tI) tI)],[.val i0 tB i1]⟩
def an159 : Ann := ⟨16,[],[],[],[],[]⟩
def st159 : Stm := sB (.call 22 [(aR 0 [i0,i0]),(aR 0 [i1,i0])]) <| sB (.not (aV 1)) <| sI (aV 2) (sR tB [(.bool false)]) <| sB (.cmp .ne i6 (aR 0 [i0,i1]) (aR 0 [i1,i1])) <| sI (aV 3) (sR tB [(.bool false)]) <| sR tB [(.bool true)]
noncomputable def fn159 (x : sg159.p.den) : Option sg159.r.den := st159.den [⟨sg22.key, sg22.p, sg22.r, fn22⟩] [] sg159.r [⟨sg159.p, x⟩]
theorem spec159 : CallSpec Try.prog sg159 fn159 := spec (ss := [sg22]) (an := an159) (stm := st159) follows (Specs.cons spec22 (Specs.nil) (by kernel_rfl)) (by kernel_rfl) (by kernel_rfl) (fun _ => rfl)
theorem eq159 : fn159 = Pf.laws_eqLut := by kernel_rfl
-- spec.l28Set
def sg160 : Sig := ⟨160,160,[.val i0 (tS 3 tI),.val i0 (tS 3 tI)],[.val i0 (tS 3 tI) i0]⟩
def an160 : Ann := ⟨57,[(6,[0,1,2,3,4,5,6,7,8,9,10,11,12,13,14,15,16,17,18,19,20,21,22,23,24,25,26,27,28,29,30,31])],[],[(0,(tP tI (tS 3 tI)),[(1,(.c (.s none (aR 0 [i1])))),(5,(.c (.h 0))),(6,(.c (.h 1))),(7,(sW (aR 2 [i0])))],[(.list 3 tI (aV 1) i0 none),(.list 3 tI (aR 2 [i1]) i0 none)])],[],[]⟩
def st160 : Stm := sB (.call 167 [(aR 0 [i0])]) <| sL (tP tI (tS 3 tI)) [(aI 0),(.nil (tS 3 tI))] <| sB (.len (aV 1)) <| sB (.cmp .lt i6 (aR 2 [i0]) (aV 3)) <| sI (aV 4) (sB (.idx (aV 1) (aR 2 [i0])) <| sB (.get (aV 1) (aR 2 [i0])) <| sB (.cmp .gt i6 (aV 6) (aI 0)) <| sI (aV 7) (sB (.idx (aV 1) (aR 2 [i0])) <| sB (.get (aV 1) (aR 2 [i0])) <| sB (.call 133 [(aR 0 [i1]),(aV 9)]) <| sB (.not (aV 10)) <| sI (aV 11) (sB (.len (aR 2 [i1])) <| sB (.cmp .eq i6 (aV 12) (aI 0)) <| sI (aV 13) (sB (.idx (aV 1) (aR 2 [i0])) <| sB (.get (aV 1) (aR 2 [i0])) <| sB (.lst 3 tI [[(aV 15)]]) <| sB (.app 8 (aR 2 [i1]) (aV 16)) <| sB (.bin .add i6 (aR 2 [i0]) (aI 1)) <| sN (tP tI (tS 3 tI)) [(aV 18),(aV 17)]) <| sB (.len (aR 2 [i1])) <| sB (.bin .sub i6 (aV 14) (aI 1)) <| sB (.idx (aR 2 [i1]) (aV 15)) <| sB (.get (aR 2 [i1]) (aV 15)) <| sB (.idx (aV 1) (aR 2 [i0])) <| sB (.get (aV 1) (aR 2 [i0])) <| sB (.cmp .ne i6 (aV 17) (aV 19)) <| sI (aV 20) (sB (.idx (aV 1) (aR 2 [i0])) <| sB (.get (aV 1) (aR 2 [i0])) <| sB (.lst 3 tI [[(aV 22)]]) <| sB (.app 8 (aR 2 [i1]) (aV 23)) <| sB (.bin .add i6 (aR 2 [i0]) (aI 1)) <| sN (tP tI (tS 3 tI)) [(aV 25),(aV 24)]) <| sB (.bin .add i6 (aR 2 [i0]) (aI 1)) <| sN (tP tI (tS 3 tI)) [(aV 21),(aR 2 [i1])]) <| sB (.bin .add i6 (aR 2 [i0]) (aI 1)) <| sN (tP tI (tS 3 tI)) [(aV 12),(aR 2 [i1])]) <| sB (.bin .add i6 (aR 2 [i0]) (aI 1)) <| sN (tP tI (tS 3 tI)) [(aV 8),(aR 2 [i1])]) <| sU <| sR (tS 3 tI) [(aR 2 [i1])]
noncomputable def fn160 (x : sg160.p.den) : Option sg160.r.den := st160.den [⟨sg167.key, sg167.p, sg167.r, fn167⟩, ⟨sg133.key, sg133.p, sg133.r, fn133⟩] [] sg160.r [⟨sg160.p, x⟩]
theorem spec160 : CallSpec Try.prog sg160 fn160 := spec (ss := [sg167, sg133]) (an := an160) (stm := st160) follows (Specs.cons spec167 (Specs.cons spec133 (Specs.nil) (by kernel_rfl)) (by kernel_rfl)) (by kernel_rfl) (by kernel_rfl) (fun _ => rfl)
theorem eq160 : fn160 = Pf.spec_l28Set := by kernel_rfl
-- laws.markLutNet
def sg45 : Sig := ⟨45,45,[.own i1 (tP tI (tP (tS 145 (tP tI (tP tI (tS 3 tI)))) (tP (tS 168 (tP (tS 3 tI) tI)) (tS 3 tI)))) i1,.val i0 tI],[.val i0 tI i1]⟩
def an45 : Ann := ⟨18,[],[],[],[],[]⟩
def st45 : Stm := sB (.call 116 [(aR 0 [i0,i1,i0]),(aR 0 [i1])]) <| sB (.call 117 [(aR 0 [i0,i1,i1,i0]),(aR 1 [i0])]) <| sB (.call 24 [(aR 0 [i0,i1,i1,i1]),(aR 2 [i0])]) <| sR (tP tI (tP (tS 145 (tP tI (tP tI (tS 3 tI)))) (tP (tS 168 (tP (tS 3 tI) tI)) (tS 3 tI)))) [(aR 3 [i0]),(aR 1 [i1]),(aR 2 [i1]),(aR 3 [i1])]
noncomputable def fn45 (x : sg45.p.den) : Option sg45.r.den := st45.den [⟨sg116.key, sg116.p, sg116.r, fn116⟩, ⟨sg117.key, sg117.p, sg117.r, fn117⟩, ⟨sg24.key, sg24.p, sg24.r, fn24⟩] [] sg45.r [⟨sg45.p, x⟩]
theorem spec45 : CallSpec Try.prog sg45 fn45 := spec (ss := [sg116, sg117, sg24]) (an := an45) (stm := st45) follows (Specs.cons spec116 (Specs.cons spec117 (Specs.cons spec24 (Specs.nil) (by kernel_rfl)) (by kernel_rfl)) (by kernel_rfl)) (by kernel_rfl) (by kernel_rfl) (fun _ => rfl)
theorem eq45 : fn45 = Pf.laws_markLutNet := by kernel_rfl
-- laws.toBlock
def sg48 : Sig := ⟨48,48,[.val i1 (tP tI (tP tI (tS 60 (tP tI tI))))],[.val i1 (tP tI (tP tI (tS 62 (tP tI tI)))) i0]⟩
def an48 : Ann := ⟨15,[],[],[],[],[]⟩
def st48 : Stm := sB (.call 120 [(aR 0 [i1,i1])]) <| sR (tP tI (tP tI (tS 62 (tP tI tI)))) [(aR 0 [i0]),(aR 0 [i1,i0]),(aV 1)]
noncomputable def fn48 (x : sg48.p.den) : Option sg48.r.den := st48.den [⟨sg120.key, sg120.p, sg120.r, fn120⟩] [] sg48.r [⟨sg48.p, x⟩]
theorem spec48 : CallSpec Try.prog sg48 fn48 := spec (ss := [sg120]) (an := an48) (stm := st48) follows (Specs.cons spec120 (Specs.nil) (by kernel_rfl)) (by kernel_rfl) (by kernel_rfl) (fun _ => rfl)
theorem eq48 : fn48 = Pf.laws_toBlock := by kernel_rfl
-- laws.eqBlock
def sg50 : Sig := ⟨50,50,[.val i1 (tP tI (tP tI (tS 62 (tP tI tI)))),.val i1 (tP tI (tP tI (tS 62 (tP tI tI))))],[.val i0 tB i1]⟩
def an50 : Ann := ⟨21,[],[],[],[],[]⟩
def st50 : Stm := sB (.cmp .ne i6 (aR 0 [i0,i0]) (aR 0 [i1,i0])) <| sI (aV 1) (sR tB [(.bool false)]) <| sB (.cmp .ne i6 (aR 0 [i0,i1,i0]) (aR 0 [i1,i1,i0])) <| sI (aV 2) (sR tB [(.bool false)]) <| sB (.call 123 [(aR 0 [i0,i1,i1]),(aR 0 [i1,i1,i1])]) <| sB (.not (aV 3)) <| sI (aV 4) (sR tB [(.bool false)]) <| sR tB [(.bool true)]
noncomputable def fn50 (x : sg50.p.den) : Option sg50.r.den := st50.den [⟨sg123.key, sg123.p, sg123.r, fn123⟩] [] sg50.r [⟨sg50.p, x⟩]
theorem spec50 : CallSpec Try.prog sg50 fn50 := spec (ss := [sg123]) (an := an50) (stm := st50) follows (Specs.cons spec123 (Specs.nil) (by kernel_rfl)) (by kernel_rfl) (by kernel_rfl) (fun _ => rfl)
theorem eq50 : fn50 = Pf.laws_eqBlock := by kernel_rfl
-- laws.szSeqS
def sg97 : Sig := ⟨97,97,[.val i0 (tS 164 (tP tI (tP tI (tS 3 tI)))),.val i0 tI],[.val i0 tI i1]⟩
def an97 : Ann := ⟨27,[],[],[(0,(tP tI tI),[(0,(.c (.s none (aR 0 [i0])))),(1,(sW (aR 4 [i0]))),(5,(sW (aR 4 [i1])))],[])],[],[]⟩
def st97 : Stm := sB (.len (aR 0 [i0])) <| sB (.bin .sub i6 (aR 0 [i1]) (aV 1)) <| sB (.cmp .lt i6 (aV 2) (aI 0)) <| sI (aV 3) (sR tI [(aI (-1))]) <| sL (tP tI tI) [(aV 2),(aI 0)] <| sB (.len (aR 0 [i0])) <| sB (.cmp .lt i6 (aR 4 [i1]) (aV 5)) <| sI (aV 6) (sB (.get (aR 0 [i0]) (aR 4 [i1])) <| sB (.call 146 [(aR 7 [i0]),(aR 7 [i1,i0]),(aR 7 [i1,i1]),(aR 4 [i0])]) <| sB (.cmp .lt i6 (aV 8) (aI 0)) <| sI (aV 9) (sU <| sR tI [(aI (-1))]) <| sB (.bin .add i6 (aR 4 [i1]) (aI 1)) <| sN (tP tI tI) [(aV 8),(aV 10)]) <| sU <| sR tI [(aR 4 [i0])]
noncomputable def fn97 (x : sg97.p.den) : Option sg97.r.den := st97.den [⟨sg146.key, sg146.p, sg146.r, fn146⟩] [] sg97.r [⟨sg97.p, x⟩]
theorem spec97 : CallSpec Try.prog sg97 fn97 := spec (ss := [sg146]) (an := an97) (stm := st97) follows (Specs.cons spec146 (Specs.nil) (by kernel_rfl)) (by kernel_rfl) (by kernel_rfl) (fun _ => rfl)
theorem eq97 : fn97 = Pf.laws_szSeqS := by kernel_rfl
-- laws.szLutS
def sg98 : Sig := ⟨98,98,[.val i0 (tS 167 (tP (tS 3 tI) tI)),.val i0 tI],[.val i0 tI i1]⟩
def an98 : Ann := ⟨27,[],[],[(0,(tP tI tI),[(0,(.c (.s none (aR 0 [i0])))),(1,(sW (aR 4 [i0]))),(5,(sW (aR 4 [i1])))],[])],[],[]⟩
def st98 : Stm := sB (.len (aR 0 [i0])) <| sB (.bin .sub i6 (aR 0 [i1]) (aV 1)) <| sB (.cmp .lt i6 (aV 2) (aI 0)) <| sI (aV 3) (sR tI [(aI (-1))]) <| sL (tP tI tI) [(aV 2),(aI 0)] <| sB (.len (aR 0 [i0])) <| sB (.cmp .lt i6 (aR 4 [i1]) (aV 5)) <| sI (aV 6) (sB (.get (aR 0 [i0]) (aR 4 [i1])) <| sB (.call 147 [(aR 7 [i0]),(aR 7 [i1]),(aR 4 [i0])]) <| sB (.cmp .lt i6 (aV 8) (aI 0)) <| sI (aV 9) (sU <| sR tI [(aI (-1))]) <| sB (.bin .add i6 (aR 4 [i1]) (aI 1)) <| sN (tP tI tI) [(aV 8),(aV 10)]) <| sU <| sR tI [(aR 4 [i0])]
noncomputable def fn98 (x : sg98.p.den) : Option sg98.r.den := st98.den [⟨sg147.key, sg147.p, sg147.r, fn147⟩] [] sg98.r [⟨sg98.p, x⟩]
theorem spec98 : CallSpec Try.prog sg98 fn98 := spec (ss := [sg147]) (an := an98) (stm := st98) follows (Specs.cons spec147 (Specs.nil) (by kernel_rfl)) (by kernel_rfl) (by kernel_rfl) (fun _ => rfl)
theorem eq98 : fn98 = Pf.laws_szLutS := by kernel_rfl
-- spec.LutNetOk
def sg100 : Sig := ⟨100,100,[.val i1 (tP tI (tP (tS 145 (tP tI (tP tI (tS 3 tI)))) (tP (tS 168 (tP (tS 3 tI) tI)) (tS 3 tI))))],[.val i0 tB i1]⟩
def an100 : Ann := ⟨99,[(14,[0,1,2,3,4,5,6,7,8,9,10,11,13,12,14,15,16,17])],[],[(0,tI,[(1,(.c (.h 0))),(3,(sW (aV 1))),(4,(sW (aV 5)))],[(.box 55 [(sV (aR 0 [i0])),(.s none (aR 0 [i1,i0])),(.s none (aR 0 [i1,i1,i0])),(.s none (aR 0 [i1,i1,i1]))])]),(2,tI,[(1,(.c (.h 0))),(6,(sW (aV 8)))],[(.box 55 [(sV (aR 0 [i0])),(.s none (aR 0 [i1,i0])),(.s none (aR 0 [i1,i1,i0])),(.s none (aR 0 [i1,i1,i1]))])])],[],[]⟩
def st100 : Stm := sB (.call 101 [(aR 0 [i0]),(aR 0 [i1,i0]),(aR 0 [i1,i1,i0]),(aR 0 [i1,i1,i1])]) <| sB (.cmp .eq i6 (aV 1) (aI 0)) <| sI (aV 2) (sR tB [(.bool false)]) <| sB (.call 148 [(aR 0 [i1,i1,i1]),(aV 1)]) <| sB (.not (aV 3)) <| sI (aV 4) (sR tB [(.bool false)]) <| sL tI [(aI 0)] <| sB (.len (aR 0 [i1,i0])) <| sB (.cmp .lt i6 (aV 5) (aV 6)) <| sI (aV 7) (sB (.get (aR 0 [i1,i0]) (aV 5)) <| sB (.cmp .eq i6 (aR 8 [i0]) (aI 0)) <| sI (aV 9) (sB (.call 72 [(aR 8 [i1,i0]),(aI 0),(aI 1)]) <| sI (aV 10) (sB (.len (aR 8 [i1,i1])) <| sB (.cmp .eq i6 (aV 11) (aI 1)) <| sI (aV 12) (sB (.call 148 [(aR 8 [i1,i1]),(aV 1)]) <| sB (.not (aV 13)) <| sI (aV 14) (sU <| sR tB [(.bool false)]) <| sB (.bin .add i6 (aV 5) (aI 1)) <| sN tI [(aV 15)]) <| sB (.cmp .eq i6 (aR 8 [i0]) (aI 1)) <| sI (aV 13) (sB (.call 72 [(aR 8 [i1,i0]),(aI 0),(aI 31)]) <| sI (aV 14) (sB (.len (aR 8 [i1,i1])) <| sB (.cmp .eq i6 (aV 15) (aI 4)) <| sB (.not (aV 16)) <| sI (aV 17) (sU <| sR tB [(.bool false)]) <| sB (.call 148 [(aR 8 [i1,i1]),(aV 1)]) <| sB (.not (aV 18)) <| sI (aV 19) (sU <| sR tB [(.bool false)]) <| sB (.bin .add i6 (aV 5) (aI 1)) <| sN tI [(aV 20)]) <| sU <| sR tB [(.bool false)]) <| sU <| sR tB [(.bool false)]) <| sB (.cmp .eq i6 (aR 8 [i0]) (aI 1)) <| sI (aV 11) (sB (.call 72 [(aR 8 [i1,i0]),(aI 0),(aI 31)]) <| sI (aV 12) (sB (.len (aR 8 [i1,i1])) <| sB (.cmp .eq i6 (aV 13) (aI 4)) <| sB (.not (aV 14)) <| sI (aV 15) (sU <| sR tB [(.bool false)]) <| sB (.call 148 [(aR 8 [i1,i1]),(aV 1)]) <| sB (.not (aV 16)) <| sI (aV 17) (sU <| sR tB [(.bool false)]) <| sB (.bin .add i6 (aV 5) (aI 1)) <| sN tI [(aV 18)]) <| sU <| sR tB [(.bool false)]) <| sU <| sR tB [(.bool false)]) <| sB (.cmp .eq i6 (aR 8 [i0]) (aI 1)) <| sI (aV 10) (sB (.call 72 [(aR 8 [i1,i0]),(aI 0),(aI 31)]) <| sI (aV 11) (sB (.len (aR 8 [i1,i1])) <| sB (.cmp .eq i6 (aV 12) (aI 4)) <| sB (.not (aV 13)) <| sI (aV 14) (sU <| sR tB [(.bool false)]) <| sB (.call 148 [(aR 8 [i1,i1]),(aV 1)]) <| sB (.not (aV 15)) <| sI (aV 16) (sU <| sR tB [(.bool false)]) <| sB (.bin .add i6 (aV 5) (aI 1)) <| sN tI [(aV 17)]) <| sU <| sR tB [(.bool false)]) <| sU <| sR tB [(.bool false)]) <| sU <| sL tI [(aI 0)] <| sB (.len (aR 0 [i1,i1,i0])) <| sB (.cmp .lt i6 (aV 8) (aV 9)) <| sI (aV 10) (sB (.get (aR 0 [i1,i1,i0]) (aV 8)) <| sB (.len (aR 11 [i0])) <| sB (.call 149 [(aV 12),(aR 11 [i1])]) <| sB (.not (aV 13)) <| sI (aV 14) (sU <| sR tB [(.bool false)]) <| sB (.call 150 [(aR 0 [i0]),(aR 0 [i1,i0]),(aR 0 [i1,i1,i0]),(aR 0 [i1,i1,i1])]) <| sB (.bin .add i6 (aV 15) (aV 8)) <| sB (.call 148 [(aR 11 [i0]),(aV 16)]) <| sB (.not (aV 17)) <| sI (aV 18) (sU <| sR tB [(.bool false)]) <| sB (.bin .add i6 (aV 8) (aI 1)) <| sN tI [(aV 19)]) <| sU <| sR tB [(.bool true)]
noncomputable def fn100 (x : sg100.p.den) : Option sg100.r.den := st100.den [⟨sg101.key, sg101.p, sg101.r, fn101⟩, ⟨sg148.key, sg148.p, sg148.r, fn148⟩, ⟨sg72.key, sg72.p, sg72.r, fn72⟩, ⟨sg149.key, sg149.p, sg149.r, fn149⟩, ⟨sg150.key, sg150.p, sg150.r, fn150⟩] [] sg100.r [⟨sg100.p, x⟩]
theorem spec100 : CallSpec Try.prog sg100 fn100 := spec (ss := [sg101, sg148, sg72, sg149, sg150]) (an := an100) (stm := st100) follows (Specs.cons spec101 (Specs.cons spec148 (Specs.cons spec72 (Specs.cons spec149 (Specs.cons spec150 (Specs.nil) (by kernel_rfl)) (by kernel_rfl)) (by kernel_rfl)) (by kernel_rfl)) (by kernel_rfl)) (by kernel_rfl) (by kernel_rfl) (fun _ => rfl)
theorem eq100 : fn100 = Pf.spec_LutNetOk := by kernel_rfl
-- spec.l28Uses
def sg102 : Sig := ⟨102,102,[.val i1 (tP tI (tP (tS 145 (tP tI (tP tI (tS 3 tI)))) (tP (tS 168 (tP (tS 3 tI) tI)) (tS 3 tI))))],[.val i0 (tS 3 tI) i0]⟩
def an102 : Ann := ⟨94,[],[],[(2,(tP tI (tS 3 tI)),[(1,(.c (.h 0))),(3,(.c (.h 1))),(4,(sW (aR 3 [i0]))),(5,(sW (aR 6 [i0])))],[(.box 55 [(sV (aR 0 [i0])),(.s none (aR 0 [i1,i0])),(.s none (aR 0 [i1,i1,i0])),(.s none (aR 0 [i1,i1,i1]))]),(.list 3 tI (aR 6 [i1]) i0 none)]),(0,(tP tI (tS 3 tI)),[(1,(.c (.h 0))),(3,(.c (.h 1))),(4,(sW (aR 3 [i0])))],[(.box 55 [(sV (aR 0 [i0])),(.s none (aR 0 [i1,i0])),(.s none (aR 0 [i1,i1,i0])),(.s none (aR 0 [i1,i1,i1]))]),(.list 3 tI (aR 3 [i1]) i0 none)]),(6,(tP tI (tS 3 tI)),[(1,(.c (.h 0))),(3,(.c (.h 1))),(6,(sW (aR 6 [i0]))),(7,(sW (aR 9 [i0])))],[(.box 55 [(sV (aR 0 [i0])),(.s none (aR 0 [i1,i0])),(.s none (aR 0 [i1,i1,i0])),(.s none (aR 0 [i1,i1,i1]))]),(.list 3 tI (aR 9 [i1]) i0 none)]),(4,(tP tI (tS 3 tI)),[(1,(.c (.h 0))),(3,(.c (.h 1))),(6,(sW (aR 6 [i0])))],[(.box 55 [(sV (aR 0 [i0])),(.s none (aR 0 [i1,i0])),(.s none (aR 0 [i1,i1,i0])),(.s none (aR 0 [i1,i1,i1]))]),(.list 3 tI (aR 6 [i1]) i0 none)]),(8,(tP tI (tS 3 tI)),[(1,(.c (.h 0))),(3,(.c (.h 1))),(8,(sW (aR 9 [i0])))],[(.box 55 [(sV (aR 0 [i0])),(.s none (aR 0 [i1,i0])),(.s none (aR 0 [i1,i1,i0])),(.s none (aR 0 [i1,i1,i1]))]),(.list 3 tI (aR 9 [i1]) i0 none)])],[],[]⟩
def st102 : Stm := sB (.call 101 [(aR 0 [i0]),(aR 0 [i1,i0]),(aR 0 [i1,i1,i0]),(aR 0 [i1,i1,i1])]) <| sB (.make 8 3 tI (aV 1)) <| sL (tP tI (tS 3 tI)) [(aI 0),(aV 2)] <| sB (.len (aR 0 [i1,i1,i0])) <| sB (.cmp .lt i6 (aR 3 [i0]) (aV 4)) <| sI (aV 5) (sL (tP tI (tS 3 tI)) [(aI 0),(aR 3 [i1])] <| sB (.get (aR 0 [i1,i1,i0]) (aR 3 [i0])) <| sB (.len (aR 7 [i0])) <| sB (.cmp .lt i6 (aR 6 [i0]) (aV 8)) <| sI (aV 9) (sB (.get (aR 0 [i1,i1,i0]) (aR 3 [i0])) <| sB (.get (aR 10 [i0]) (aR 6 [i0])) <| sB (.idx (aR 6 [i1]) (aV 11)) <| sB (.get (aR 6 [i1]) (aV 11)) <| sB (.bin .add i6 (aV 13) (aI 1)) <| sB (.idx (aR 6 [i1]) (aV 11)) <| sB (.get (aR 6 [i1]) (aV 11)) <| sB (.mk tI [(aV 14)]) <| sB (.set (aR 6 [i1]) (aV 11) (aV 17)) <| sB (.bin .add i6 (aR 6 [i0]) (aI 1)) <| sN (tP tI (tS 3 tI)) [(aV 19),(aV 18)]) <| sU <| sB (.bin .add i6 (aR 3 [i0]) (aI 1)) <| sN (tP tI (tS 3 tI)) [(aV 10),(aR 6 [i1])]) <| sU <| sL (tP tI (tS 3 tI)) [(aI 0),(aR 3 [i1])] <| sB (.len (aR 0 [i1,i0])) <| sB (.cmp .lt i6 (aR 6 [i0]) (aV 7)) <| sI (aV 8) (sL (tP tI (tS 3 tI)) [(aI 0),(aR 6 [i1])] <| sB (.get (aR 0 [i1,i0]) (aR 6 [i0])) <| sB (.len (aR 10 [i1,i1])) <| sB (.cmp .lt i6 (aR 9 [i0]) (aV 11)) <| sI (aV 12) (sB (.get (aR 0 [i1,i0]) (aR 6 [i0])) <| sB (.get (aR 13 [i1,i1]) (aR 9 [i0])) <| sB (.idx (aR 9 [i1]) (aV 14)) <| sB (.get (aR 9 [i1]) (aV 14)) <| sB (.bin .add i6 (aV 16) (aI 1)) <| sB (.idx (aR 9 [i1]) (aV 14)) <| sB (.get (aR 9 [i1]) (aV 14)) <| sB (.mk tI [(aV 17)]) <| sB (.set (aR 9 [i1]) (aV 14) (aV 20)) <| sB (.bin .add i6 (aR 9 [i0]) (aI 1)) <| sN (tP tI (tS 3 tI)) [(aV 22),(aV 21)]) <| sU <| sB (.bin .add i6 (aR 6 [i0]) (aI 1)) <| sN (tP tI (tS 3 tI)) [(aV 13),(aR 9 [i1])]) <| sU <| sL (tP tI (tS 3 tI)) [(aI 0),(aR 6 [i1])] <| sB (.len (aR 0 [i1,i1,i1])) <| sB (.cmp .lt i6 (aR 9 [i0]) (aV 10)) <| sI (aV 11) (sB (.get (aR 0 [i1,i1,i1]) (aR 9 [i0])) <| sB (.idx (aR 9 [i1]) (aV 12)) <| sB (.get (aR 9 [i1]) (aV 12)) <| sB (.bin .add i6 (aV 14) (aI 1)) <| sB (.idx (aR 9 [i1]) (aV 12)) <| sB (.get (aR 9 [i1]) (aV 12)) <| sB (.mk tI [(aV 15)]) <| sB (.set (aR 9 [i1]) (aV 12) (aV 18)) <| sB (.bin .add i6 (aR 9 [i0]) (aI 1)) <| sN (tP tI (tS 3 tI)) [(aV 20),(aV 19)]) <| sU <| sR (tS 3 tI) [(aR 9 [i1])]
noncomputable def fn102 (x : sg102.p.den) : Option sg102.r.den := st102.den [⟨sg101.key, sg101.p, sg101.r, fn101⟩] [] sg102.r [⟨sg102.p, x⟩]
theorem spec102 : CallSpec Try.prog sg102 fn102 := spec (ss := [sg101]) (an := an102) (stm := st102) follows (Specs.cons spec101 (Specs.nil) (by kernel_rfl)) (by kernel_rfl) (by kernel_rfl) (fun _ => rfl)
theorem eq102 : fn102 = Pf.spec_l28Uses := by kernel_rfl
-- laws.toSeqS
def sg103 : Sig := ⟨103,103,[.val i0 (tS 164 (tP tI (tP tI (tS 3 tI))))],[.val i0 (tS 145 (tP tI (tP tI (tS 3 tI)))) i0]⟩
def an103 : Ann := ⟨23,[],[],[(0,(tP tI (tS 145 (tP tI (tP tI (tS 3 tI))))),[(0,(.c (.s none (aV 0)))),(3,(.c (.h 0))),(4,(sW (aR 3 [i0])))],[(.list 145 (tP tI (tP tI (tS 3 tI))) (aR 3 [i1]) i0 none)])],[],[]⟩
def st103 : Stm := sB (.len (aV 0)) <| sB (.make 40 145 (tP tI (tP tI (tS 3 tI))) (aV 1)) <| sL (tP tI (tS 145 (tP tI (tP tI (tS 3 tI))))) [(aI 0),(aV 2)] <| sB (.len (aV 0)) <| sB (.cmp .lt i6 (aR 3 [i0]) (aV 4)) <| sI (aV 5) (sB (.get (aV 0) (aR 3 [i0])) <| sB (.call 151 [(aR 6 [i0]),(aR 6 [i1,i0]),(aR 6 [i1,i1])]) <| sB (.idx (aR 3 [i1]) (aR 3 [i0])) <| sB (.get (aR 3 [i1]) (aR 3 [i0])) <| sB (.mk (tP tI (tP tI (tS 3 tI))) [(aR 7 [i0]),(aR 7 [i1,i0]),(aR 7 [i1,i1])]) <| sB (.set (aR 3 [i1]) (aR 3 [i0]) (aV 10)) <| sB (.bin .add i6 (aR 3 [i0]) (aI 1)) <| sN (tP tI (tS 145 (tP tI (tP tI (tS 3 tI))))) [(aV 12),(aV 11)]) <| sU <| sR (tS 145 (tP tI (tP tI (tS 3 tI)))) [(aR 3 [i1])]
noncomputable def fn103 (x : sg103.p.den) : Option sg103.r.den := st103.den [⟨sg151.key, sg151.p, sg151.r, fn151⟩] [] sg103.r [⟨sg103.p, x⟩]
theorem spec103 : CallSpec Try.prog sg103 fn103 := spec (ss := [sg151]) (an := an103) (stm := st103) follows (Specs.cons spec151 (Specs.nil) (by kernel_rfl)) (by kernel_rfl) (by kernel_rfl) (fun _ => rfl)
theorem eq103 : fn103 = Pf.laws_toSeqS := by kernel_rfl
-- laws.toLutS
def sg104 : Sig := ⟨104,104,[.val i0 (tS 167 (tP (tS 3 tI) tI))],[.val i0 (tS 168 (tP (tS 3 tI) tI)) i0]⟩
def an104 : Ann := ⟨23,[],[],[(0,(tP tI (tS 168 (tP (tS 3 tI) tI))),[(0,(.c (.s none (aV 0)))),(3,(.c (.h 0))),(4,(sW (aR 3 [i0])))],[(.list 168 (tP (tS 3 tI) tI) (aR 3 [i1]) i0 none)])],[],[]⟩
def st104 : Stm := sB (.len (aV 0)) <| sB (.make 32 168 (tP (tS 3 tI) tI) (aV 1)) <| sL (tP tI (tS 168 (tP (tS 3 tI) tI))) [(aI 0),(aV 2)] <| sB (.len (aV 0)) <| sB (.cmp .lt i6 (aR 3 [i0]) (aV 4)) <| sI (aV 5) (sB (.get (aV 0) (aR 3 [i0])) <| sB (.call 152 [(aR 6 [i0]),(aR 6 [i1])]) <| sB (.idx (aR 3 [i1]) (aR 3 [i0])) <| sB (.get (aR 3 [i1]) (aR 3 [i0])) <| sB (.mk (tP (tS 3 tI) tI) [(aR 7 [i0]),(aR 7 [i1])]) <| sB (.set (aR 3 [i1]) (aR 3 [i0]) (aV 10)) <| sB (.bin .add i6 (aR 3 [i0]) (aI 1)) <| sN (tP tI (tS 168 (tP (tS 3 tI) tI))) [(aV 12),(aV 11)]) <| sU <| sR (tS 168 (tP (tS 3 tI) tI)) [(aR 3 [i1])]
noncomputable def fn104 (x : sg104.p.den) : Option sg104.r.den := st104.den [⟨sg152.key, sg152.p, sg152.r, fn152⟩] [] sg104.r [⟨sg104.p, x⟩]
theorem spec104 : CallSpec Try.prog sg104 fn104 := spec (ss := [sg152]) (an := an104) (stm := st104) follows (Specs.cons spec152 (Specs.nil) (by kernel_rfl)) (by kernel_rfl) (by kernel_rfl) (fun _ => rfl)
theorem eq104 : fn104 = Pf.laws_toLutS := by kernel_rfl
-- impl.LutNetOk
def sg105 : Sig := ⟨105,105,[.val i1 (tP tI (tP (tS 145 (tP tI (tP tI (tS 3 tI)))) (tP (tS 168 (tP (tS 3 tI) tI)) (tS 3 tI))))],[.val i0 tB i1]⟩
def an105 : Ann := ⟨70,[(13,[0,1,2,3,4,5,6,7,9,8,10,11,12,13,14,15,16,17,18,19,20,21,22,23])],[],[(0,tI,[(1,(.c (.h 0))),(3,(sW (aV 1))),(20,(.c (.s none (aR 0 [i1,i0])))),(21,(sW (aV 5))),(22,(sW (aV 6)))],[(.box 55 [(sV (aR 0 [i0])),(.s none (aR 0 [i1,i0])),(.s none (aR 0 [i1,i1,i0])),(.s none (aR 0 [i1,i1,i1]))])]),(2,tI,[(1,(.c (.h 0))),(38,(.c (.s none (aR 0 [i1,i1,i0])))),(39,(sW (aV 8))),(40,(sW (aV 9)))],[(.box 55 [(sV (aR 0 [i0])),(.s none (aR 0 [i1,i0])),(.s none (aR 0 [i1,i1,i0])),(.s none (aR 0 [i1,i1,i1]))])])],[],[]⟩
def st105 : Stm := sB (.call 153 [(aR 0 [i0]),(aR 0 [i1,i0]),(aR 0 [i1,i1,i0]),(aR 0 [i1,i1,i1])]) <| sB (.cmp .eq i6 (aV 1) (aI 0)) <| sI (aV 2) (sR tB [(.bool false)]) <| sB (.call 154 [(aR 0 [i1,i1,i1]),(aV 1)]) <| sB (.not (aV 3)) <| sI (aV 4) (sR tB [(.bool false)]) <| sB (.len (aR 0 [i1,i0])) <| sL tI [(aI 0)] <| sB (.cmp .lt i6 (aV 6) (aV 5)) <| sI (aV 7) (sB (.get (aR 0 [i1,i0]) (aV 6)) <| sB (.call 155 [(aR 8 [i0]),(aR 8 [i1,i0]),(aR 8 [i1,i1])]) <| sB (.not (aV 9)) <| sI (aV 10) (sU <| sR tB [(.bool false)]) <| sB (.call 154 [(aR 8 [i1,i1]),(aV 1)]) <| sB (.not (aV 11)) <| sI (aV 12) (sU <| sR tB [(.bool false)]) <| sB (.bin .add i6 (aV 6) (aI 1)) <| sN tI [(aV 13)]) <| sU <| sB (.len (aR 0 [i1,i1,i0])) <| sL tI [(aI 0)] <| sB (.cmp .lt i6 (aV 9) (aV 8)) <| sI (aV 10) (sB (.get (aR 0 [i1,i1,i0]) (aV 9)) <| sB (.len (aR 11 [i0])) <| sB (.cmp .gt i6 (aV 12) (aI 4)) <| sI (aV 13) (sU <| sR tB [(.bool false)]) <| sB (.call 156 [(aR 0 [i0]),(aR 0 [i1,i0]),(aR 0 [i1,i1,i0]),(aR 0 [i1,i1,i1])]) <| sB (.bin .add i6 (aV 14) (aV 9)) <| sB (.call 154 [(aR 11 [i0]),(aV 15)]) <| sB (.not (aV 16)) <| sI (aV 17) (sU <| sR tB [(.bool false)]) <| sB (.len (aR 11 [i0])) <| sB (.call 157 [(aV 18),(aR 11 [i1])]) <| sB (.not (aV 19)) <| sI (aV 20) (sU <| sR tB [(.bool false)]) <| sB (.bin .add i6 (aV 9) (aI 1)) <| sN tI [(aV 21)]) <| sU <| sR tB [(.bool true)]
noncomputable def fn105 (x : sg105.p.den) : Option sg105.r.den := st105.den [⟨sg153.key, sg153.p, sg153.r, fn153⟩, ⟨sg154.key, sg154.p, sg154.r, fn154⟩, ⟨sg155.key, sg155.p, sg155.r, fn155⟩, ⟨sg156.key, sg156.p, sg156.r, fn156⟩, ⟨sg157.key, sg157.p, sg157.r, fn157⟩] [] sg105.r [⟨sg105.p, x⟩]
theorem spec105 : CallSpec Try.prog sg105 fn105 := spec (ss := [sg153, sg154, sg155, sg156, sg157]) (an := an105) (stm := st105) follows (Specs.cons spec153 (Specs.cons spec154 (Specs.cons spec155 (Specs.cons spec156 (Specs.cons spec157 (Specs.nil) (by kernel_rfl)) (by kernel_rfl)) (by kernel_rfl)) (by kernel_rfl)) (by kernel_rfl)) (by kernel_rfl) (by kernel_rfl) (fun _ => rfl)
theorem eq105 : fn105 = Pf.impl_LutNetOk := by kernel_rfl
-- laws.eqSeqS
def sg108 : Sig := ⟨108,108,[.val i0 (tS 145 (tP tI (tP tI (tS 3 tI)))),.val i0 (tS 145 (tP tI (tP tI (tS 3 tI))))],[.val i0 tB i1]⟩
def an108 : Ann := ⟨27,[(6,[0,1,2,3,4,5,6,7,8,9])],[],[(0,tI,[(0,(.c (.s none (aR 0 [i0])))),(1,(.c (.s none (aR 0 [i1])))),(5,(sW (aV 4)))],[])],[],[]⟩
def st108 : Stm := sB (.len (aR 0 [i0])) <| sB (.len (aR 0 [i1])) <| sB (.cmp .ne i6 (aV 1) (aV 2)) <| sI (aV 3) (sR tB [(.bool false)]) <| sL tI [(aI 0)] <| sB (.len (aR 0 [i0])) <| sB (.cmp .lt i6 (aV 4) (aV 5)) <| sI (aV 6) (sB (.get (aR 0 [i0]) (aV 4)) <| sB (.get (aR 0 [i1]) (aV 4)) <| sB (.call 158 [(aR 7 [i0]),(aR 7 [i1,i0]),(aR 7 [i1,i1]),(aR 8 [i0]),(aR 8 [i1,i0]),(aR 8 [i1,i1])]) <| sB (.not (aV 9)) <| sI (aV 10) (sU <| sR tB [(.bool false)]) <| sB (.bin .add i6 (aV 4) (aI 1)) <| sN tI [(aV 11)]) <| sU <| sR tB [(.bool true)]
noncomputable def fn108 (x : sg108.p.den) : Option sg108.r.den := st108.den [⟨sg158.key, sg158.p, sg158.r, fn158⟩] [] sg108.r [⟨sg108.p, x⟩]
theorem spec108 : CallSpec Try.prog sg108 fn108 := spec (ss := [sg158]) (an := an108) (stm := st108) follows (Specs.cons spec158 (Specs.nil) (by kernel_rfl)) (by kernel_rfl) (by kernel_rfl) (fun _ => rfl)
theorem eq108 : fn108 = Pf.laws_eqSeqS := by kernel_rfl
-- laws.eqLutS
def sg109 : Sig := ⟨109,109,[.val i0 (tS 168 (tP (tS 3 tI) tI)),.val i0 (tS 168 (tP (tS 3 tI) tI))],[.val i0 tB i1]⟩
def an109 : Ann := ⟨27,[(6,[0,1,2,3,4,5,6,7,8,9])],[],[(0,tI,[(0,(.c (.s none (aR 0 [i0])))),(1,(.c (.s none (aR 0 [i1])))),(5,(sW (aV 4)))],[])],[],[]⟩
def st109 : Stm := sB (.len (aR 0 [i0])) <| sB (.len (aR 0 [i1])) <| sB (.cmp .ne i6 (aV 1) (aV 2)) <| sI (aV 3) (sR tB [(.bool false)]) <| sL tI [(aI 0)] <| sB (.len (aR 0 [i0])) <| sB (.cmp .lt i6 (aV 4) (aV 5)) <| sI (aV 6) (sB (.get (aR 0 [i0]) (aV 4)) <| sB (.get (aR 0 [i1]) (aV 4)) <| sB (.call 159 [(aR 7 [i0]),(aR 7 [i1]),(aR 8 [i0]),(aR 8 [i1])]) <| sB (.not (aV 9)) <| sI (aV 10) (sU <| sR tB [(.bool false)]) <| sB (.bin .add i6 (aV 4) (aI 1)) <| sN tI [(aV 11)]) <| sU <| sR tB [(.bool true)]
noncomputable def fn109 (x : sg109.p.den) : Option sg109.r.den := st109.den [⟨sg159.key, sg159.p, sg159.r, fn159⟩] [] sg109.r [⟨sg109.p, x⟩]
theorem spec109 : CallSpec Try.prog sg109 fn109 := spec (ss := [sg159]) (an := an109) (stm := st109) follows (Specs.cons spec159 (Specs.nil) (by kernel_rfl)) (by kernel_rfl) (by kernel_rfl) (fun _ => rfl)
theorem eq109 : fn109 = Pf.laws_eqLutS := by kernel_rfl
-- impl.leOk
def sg111 : Sig := ⟨111,111,[.val i1 (tP tI (tP (tS 145 (tP tI (tP tI (tS 3 tI)))) (tP (tS 168 (tP (tS 3 tI) tI)) (tS 3 tI)))),.val i1 (tP tI tI)],[.val i0 tB i1]⟩
def an111 : Ann := ⟨79,[(6,[0,2,3,1,4,5])],[],[],[],[(3,.unit,[(2,(.c (.h 0))),(3,(.c (.h 1)))],[(.box 55 [(sV (aR 0 [i0,i0])),(.s none (aR 0 [i0,i1,i0])),(.s none (aR 0 [i0,i1,i1,i0])),(.s none (aR 0 [i0,i1,i1,i1]))]),(.box 62 [(sV (aR 0 [i1,i0])),(sV (aR 0 [i1,i1]))])])]⟩
def st111 : Stm := sJ .unit (sB (.len (aR 0 [i0,i1,i1,i0])) <| sB (.bin .sub i6 (aV 1) (aI 1)) <| sB (.call 78 [(aR 0 [i1,i0]),(aI (-1)),(aV 2)]) <| sB (.not (aV 3)) <| sI (aV 4) (sU <| sR tB [(.bool false)]) <| sB (.len (aR 0 [i0,i1,i0])) <| sB (.bin .sub i6 (aV 5) (aI 1)) <| sB (.call 78 [(aR 0 [i1,i1]),(aI (-1)),(aV 6)]) <| sB (.not (aV 7)) <| sI (aV 8) (sU <| sR tB [(.bool false)]) <| sB (.cmp .eq i6 (aR 0 [i1,i0]) (aI (-1))) <| sI (aV 9) (sB (.cmp .eq i6 (aR 0 [i1,i1]) (aI (-1))) <| sI (aV 10) (sU <| sR tB [(.bool false)]) <| sN .unit []) <| sN .unit []) <| sB (.cmp .ge i6 (aR 0 [i1,i1]) (aI 0)) <| sI (aV 2) (sB (.get (aR 0 [i0,i1,i0]) (aR 0 [i1,i1])) <| sB (.cmp .ne i6 (aR 3 [i0]) (aI 0)) <| sI (aV 4) (sR tB [(.bool false)]) <| sB (.cmp .ge i6 (aR 0 [i1,i0]) (aI 0)) <| sI (aV 5) (sB (.cmp .ge i6 (aR 0 [i1,i1]) (aI 0)) <| sI (aV 6) (sB (.call 156 [(aR 0 [i0,i0]),(aR 0 [i0,i1,i0]),(aR 0 [i0,i1,i1,i0]),(aR 0 [i0,i1,i1,i1])]) <| sB (.bin .add i6 (aV 7) (aR 0 [i1,i0])) <| sB (.get (aR 0 [i0,i1,i0]) (aR 0 [i1,i1])) <| sB (.get (aR 9 [i1,i1]) (aI 0)) <| sB (.cmp .eq i6 (aV 10) (aV 8)) <| sI (aV 11) (sB (.call 107 [(aR 0 [i0,i0]),(aR 0 [i0,i1,i0]),(aR 0 [i0,i1,i1,i0]),(aR 0 [i0,i1,i1,i1])]) <| sB (.idx (aV 12) (aV 8)) <| sB (.get (aV 12) (aV 8)) <| sB (.cmp .eq i6 (aV 14) (aI 1)) <| sR tB [(aV 15)]) <| sR tB [(.bool false)]) <| sR tB [(.bool true)]) <| sR tB [(.bool true)]) <| sB (.cmp .ge i6 (aR 0 [i1,i0]) (aI 0)) <| sI (aV 3) (sB (.cmp .ge i6 (aR 0 [i1,i1]) (aI 0)) <| sI (aV 4) (sB (.call 156 [(aR 0 [i0,i0]),(aR 0 [i0,i1,i0]),(aR 0 [i0,i1,i1,i0]),(aR 0 [i0,i1,i1,i1])]) <| sB (.bin .add i6 (aV 5) (aR 0 [i1,i0])) <| sB (.get (aR 0 [i0,i1,i0]) (aR 0 [i1,i1])) <| sB (.get (aR 7 [i1,i1]) (aI 0)) <| sB (.cmp .eq i6 (aV 8) (aV 6)) <| sI (aV 9) (sB (.call 107 [(aR 0 [i0,i0]),(aR 0 [i0,i1,i0]),(aR 0 [i0,i1,i1,i0]),(aR 0 [i0,i1,i1,i1])]) <| sB (.idx (aV 10) (aV 6)) <| sB (.get (aV 10) (aV 6)) <| sB (.cmp .eq i6 (aV 12) (aI 1)) <| sR tB [(aV 13)]) <| sR tB [(.bool false)]) <| sR tB [(.bool true)]) <| sR tB [(.bool true)]
noncomputable def fn111 (x : sg111.p.den) : Option sg111.r.den := st111.den [⟨sg78.key, sg78.p, sg78.r, fn78⟩, ⟨sg156.key, sg156.p, sg156.r, fn156⟩, ⟨sg107.key, sg107.p, sg107.r, fn107⟩] [] sg111.r [⟨sg111.p, x⟩]
theorem spec111 : CallSpec Try.prog sg111 fn111 := spec (ss := [sg78, sg156, sg107]) (an := an111) (stm := st111) follows (Specs.cons spec78 (Specs.cons spec156 (Specs.cons spec107 (Specs.nil) (by kernel_rfl)) (by kernel_rfl)) (by kernel_rfl)) (by kernel_rfl) (by kernel_rfl) (fun _ => rfl)
theorem eq111 : fn111 = Pf.impl_leOk := by kernel_rfl
-- spec.l28Ins
def sg114 : Sig := ⟨114,114,[.val i1 (tP tI (tP (tS 145 (tP tI (tP tI (tS 3 tI)))) (tP (tS 168 (tP (tS 3 tI) tI)) (tS 3 tI)))),.val i1 (tP tI tI)],[.val i0 (tS 3 tI) i0]⟩
def an114 : Ann := ⟨26,[],[],[],[],[]⟩
def st114 : Stm := sB (.cmp .ge i6 (aR 0 [i1,i0]) (aI 0)) <| sI (aV 1) (sB (.get (aR 0 [i0,i1,i1,i0]) (aR 0 [i1,i0])) <| sB (.call 160 [(aR 2 [i0]),(.nil (tS 3 tI))]) <| sR (tS 3 tI) [(aV 3)]) <| sB (.get (aR 0 [i0,i1,i0]) (aR 0 [i1,i1])) <| sB (.call 160 [(aR 2 [i1,i1]),(.nil (tS 3 tI))]) <| sR (tS 3 tI) [(aV 3)]
noncomputable def fn114 (x : sg114.p.den) : Option sg114.r.den := st114.den [⟨sg160.key, sg160.p, sg160.r, fn160⟩] [] sg114.r [⟨sg114.p, x⟩]
theorem spec114 : CallSpec Try.prog sg114 fn114 := spec (ss := [sg160]) (an := an114) (stm := st114) follows (Specs.cons spec160 (Specs.nil) (by kernel_rfl)) (by kernel_rfl) (by kernel_rfl) (fun _ => rfl)
theorem eq114 : fn114 = Pf.spec_l28Ins := by kernel_rfl
-- impl.pinNodes
def sg127 : Sig := ⟨127,127,[.val i1 (tP tI (tP (tS 145 (tP tI (tP tI (tS 3 tI)))) (tP (tS 168 (tP (tS 3 tI) tI)) (tS 3 tI)))),.val i1 (tP tI (tP tI (tS 62 (tP tI tI))))],[.val i0 (tS 3 tI) i0]⟩
def an127 : Ann := ⟨75,[],[],[(1,(tP (tS 3 tI) tI),[(2,(.c (.h 0))),(3,(.c (.h 1))),(5,(.c (.h 2))),(6,(.c .nil)),(37,(.c (.s none (aR 0 [i1,i1,i1])))),(38,(sW (aV 4))),(39,(sW (aR 5 [i1])))],[(.box 55 [(sV (aR 0 [i0,i0])),(.s none (aR 0 [i0,i1,i0])),(.s none (aR 0 [i0,i1,i1,i0])),(.s none (aR 0 [i0,i1,i1,i1]))]),(.box 74 [(sV (aR 0 [i1,i0])),(sV (aR 0 [i1,i1,i0])),(.s none (aR 0 [i1,i1,i1]))]),(.list 3 tI (aR 5 [i0]) i1 none)]),(5,(tP tI (tS 3 tI)),[(2,(.c (.h 0))),(5,(.c (.h 2))),(6,(.c (.h 3))),(51,(.c (.s none (aR 0 [i1,i1,i1])))),(52,(sW (aV 7))),(53,(sW (aR 8 [i1]))),(59,(.c (.h 5))),(60,(sW (aV 12))),(61,(sW (aR 13 [i0])))],[(.box 55 [(sV (aR 0 [i0,i0])),(.s none (aR 0 [i0,i1,i0])),(.s none (aR 0 [i0,i1,i1,i0])),(.s none (aR 0 [i0,i1,i1,i1]))]),.dead,(.list 3 tI (aR 5 [i0]) i1 none),(.list 3 tI (aR 13 [i1]) i0 none),.dead,(.list 3 tI (aV 11) i0 none)]),(3,(tP (tS 3 tI) tI),[(2,(.c (.h 0))),(5,(.c (.h 2))),(6,(.c (.h 3))),(51,(.c (.s none (aR 0 [i1,i1,i1])))),(52,(sW (aV 7))),(53,(sW (aR 8 [i1])))],[(.box 55 [(sV (aR 0 [i0,i0])),(.s none (aR 0 [i0,i1,i0])),(.s none (aR 0 [i0,i1,i1,i0])),(.s none (aR 0 [i0,i1,i1,i1]))]),.dead,(.list 3 tI (aR 5 [i0]) i1 none),(.list 3 tI (aR 8 [i0]) i0 none)])],[],[]⟩
def st127 : Stm := sB (.cmp .eq i6 (aR 0 [i1,i0]) (aI 0)) <| sI (aV 1) (sR (tS 3 tI) [(.nil (tS 3 tI))]) <| sB (.cmp .eq i6 (aR 0 [i1,i0]) (aI 1)) <| sI (aV 2) (sB (.get (aR 0 [i0,i1,i1,i1]) (aR 0 [i1,i1,i0])) <| sB (.lst 3 tI [[(aV 3)]]) <| sR (tS 3 tI) [(aV 4)]) <| sB (.cmp .eq i6 (aR 0 [i1,i0]) (aI 2)) <| sI (aV 3) (sB (.get (aR 0 [i0,i1,i0]) (aR 0 [i1,i1,i0])) <| sB (.call 91 [(aR 4 [i1,i1])]) <| sR (tS 3 tI) [(aV 5)]) <| sB (.len (aR 0 [i1,i1,i1])) <| sL (tP (tS 3 tI) tI) [(.nil (tS 3 tI)),(aI 0)] <| sB (.cmp .lt i6 (aR 5 [i1]) (aV 4)) <| sI (aV 6) (sB (.get (aR 0 [i1,i1,i1]) (aR 5 [i1])) <| sB (.call 113 [(aR 0 [i0,i0]),(aR 0 [i0,i1,i0]),(aR 0 [i0,i1,i1,i0]),(aR 0 [i0,i1,i1,i1]),(aR 7 [i0]),(aR 7 [i1])]) <| sB (.lst 3 tI [[(aV 8)]]) <| sB (.app 8 (aR 5 [i0]) (aV 9)) <| sB (.bin .add i6 (aR 5 [i1]) (aI 1)) <| sN (tP (tS 3 tI) tI) [(aV 10),(aV 11)]) <| sU <| sB (.len (aR 0 [i1,i1,i1])) <| sL (tP (tS 3 tI) tI) [(.nil (tS 3 tI)),(aI 0)] <| sB (.cmp .lt i6 (aR 8 [i1]) (aV 7)) <| sI (aV 9) (sB (.get (aR 0 [i1,i1,i1]) (aR 8 [i1])) <| sB (.call 115 [(aR 0 [i0,i0]),(aR 0 [i0,i1,i0]),(aR 0 [i0,i1,i1,i0]),(aR 0 [i0,i1,i1,i1]),(aR 10 [i0]),(aR 10 [i1])]) <| sB (.len (aV 11)) <| sL (tP tI (tS 3 tI)) [(aI 0),(aR 8 [i0])] <| sB (.cmp .lt i6 (aR 13 [i0]) (aV 12)) <| sI (aV 14) (sB (.idx (aV 11) (aR 13 [i0])) <| sB (.get (aV 11) (aR 13 [i0])) <| sB (.call 134 [(aR 5 [i0]),(aV 16)]) <| sB (.not (aV 17)) <| sI (aV 18) (sB (.call 161 [(aR 13 [i1]),(aV 16)]) <| sB (.bin .add i6 (aR 13 [i0]) (aI 1)) <| sN (tP tI (tS 3 tI)) [(aV 20),(aV 19)]) <| sB (.bin .add i6 (aR 13 [i0]) (aI 1)) <| sN (tP tI (tS 3 tI)) [(aV 19),(aR 13 [i1])]) <| sU <| sB (.bin .add i6 (aR 8 [i1]) (aI 1)) <| sN (tP (tS 3 tI) tI) [(aR 13 [i1]),(aV 15)]) <| sU <| sR (tS 3 tI) [(aR 8 [i0])]
noncomputable def fn127 (x : sg127.p.den) : Option sg127.r.den := st127.den [⟨sg91.key, sg91.p, sg91.r, fn91⟩, ⟨sg113.key, sg113.p, sg113.r, fn113⟩, ⟨sg115.key, sg115.p, sg115.r, fn115⟩, ⟨sg134.key, sg134.p, sg134.r, fn134⟩, ⟨sg161.key, sg161.p, sg161.r, fn161⟩] [] sg127.r [⟨sg127.p, x⟩]
theorem spec127 : CallSpec Try.prog sg127 fn127 := spec (ss := [sg91, sg113, sg115, sg134, sg161]) (an := an127) (stm := st127) follows (Specs.cons spec91 (Specs.cons spec113 (Specs.cons spec115 (Specs.cons spec134 (Specs.cons spec161 (Specs.nil) (by kernel_rfl)) (by kernel_rfl)) (by kernel_rfl)) (by kernel_rfl)) (by kernel_rfl)) (by kernel_rfl) (by kernel_rfl) (fun _ => rfl)
theorem eq127 : fn127 = Pf.impl_pinNodes := by kernel_rfl
-- laws.szLutNet
def sg33 : Sig := ⟨33,33,[.val i1 (tP tI (tP (tS 164 (tP tI (tP tI (tS 3 tI)))) (tP (tS 167 (tP (tS 3 tI) tI)) (tS 3 tI)))),.val i0 tI],[.val i0 tI i1]⟩
def an33 : Ann := ⟨24,[],[],[],[],[]⟩
def st33 : Stm := sB (.call 97 [(aR 0 [i0,i1,i0]),(aR 0 [i1])]) <| sB (.cmp .lt i6 (aV 1) (aI 0)) <| sI (aV 2) (sR tI [(aI (-1))]) <| sB (.call 98 [(aR 0 [i0,i1,i1,i0]),(aV 1)]) <| sB (.cmp .lt i6 (aV 3) (aI 0)) <| sI (aV 4) (sR tI [(aI (-1))]) <| sB (.call 99 [(aR 0 [i0,i1,i1,i1]),(aV 3)]) <| sB (.cmp .lt i6 (aV 5) (aI 0)) <| sI (aV 6) (sR tI [(aI (-1))]) <| sR tI [(aV 5)]
noncomputable def fn33 (x : sg33.p.den) : Option sg33.r.den := st33.den [⟨sg97.key, sg97.p, sg97.r, fn97⟩, ⟨sg98.key, sg98.p, sg98.r, fn98⟩, ⟨sg99.key, sg99.p, sg99.r, fn99⟩] [] sg33.r [⟨sg33.p, x⟩]
theorem spec33 : CallSpec Try.prog sg33 fn33 := spec (ss := [sg97, sg98, sg99]) (an := an33) (stm := st33) follows (Specs.cons spec97 (Specs.cons spec98 (Specs.cons spec99 (Specs.nil) (by kernel_rfl)) (by kernel_rfl)) (by kernel_rfl)) (by kernel_rfl) (by kernel_rfl) (fun _ => rfl)
theorem eq33 : fn33 = Pf.laws_szLutNet := by kernel_rfl
-- laws.toLutNet
def sg35 : Sig := ⟨35,35,[.val i1 (tP tI (tP (tS 164 (tP tI (tP tI (tS 3 tI)))) (tP (tS 167 (tP (tS 3 tI) tI)) (tS 3 tI))))],[.val i1 (tP tI (tP (tS 145 (tP tI (tP tI (tS 3 tI)))) (tP (tS 168 (tP (tS 3 tI) tI)) (tS 3 tI)))) i0]⟩
def an35 : Ann := ⟨20,[],[],[],[],[]⟩
def st35 : Stm := sB (.call 103 [(aR 0 [i1,i0])]) <| sB (.call 104 [(aR 0 [i1,i1,i0])]) <| sB (.call 18 [(aR 0 [i1,i1,i1])]) <| sR (tP tI (tP (tS 145 (tP tI (tP tI (tS 3 tI)))) (tP (tS 168 (tP (tS 3 tI) tI)) (tS 3 tI)))) [(aR 0 [i0]),(aV 1),(aV 2),(aV 3)]
noncomputable def fn35 (x : sg35.p.den) : Option sg35.r.den := st35.den [⟨sg103.key, sg103.p, sg103.r, fn103⟩, ⟨sg104.key, sg104.p, sg104.r, fn104⟩, ⟨sg18.key, sg18.p, sg18.r, fn18⟩] [] sg35.r [⟨sg35.p, x⟩]
theorem spec35 : CallSpec Try.prog sg35 fn35 := spec (ss := [sg103, sg104, sg18]) (an := an35) (stm := st35) follows (Specs.cons spec103 (Specs.cons spec104 (Specs.cons spec18 (Specs.nil) (by kernel_rfl)) (by kernel_rfl)) (by kernel_rfl)) (by kernel_rfl) (by kernel_rfl) (fun _ => rfl)
theorem eq35 : fn35 = Pf.laws_toLutNet := by kernel_rfl
-- laws.eqLutNet
def sg37 : Sig := ⟨37,37,[.val i1 (tP tI (tP (tS 145 (tP tI (tP tI (tS 3 tI)))) (tP (tS 168 (tP (tS 3 tI) tI)) (tS 3 tI)))),.val i1 (tP tI (tP (tS 145 (tP tI (tP tI (tS 3 tI)))) (tP (tS 168 (tP (tS 3 tI) tI)) (tS 3 tI))))],[.val i0 tB i1]⟩
def an37 : Ann := ⟨28,[],[],[],[],[]⟩
def st37 : Stm := sB (.cmp .ne i6 (aR 0 [i0,i0]) (aR 0 [i1,i0])) <| sI (aV 1) (sR tB [(.bool false)]) <| sB (.call 108 [(aR 0 [i0,i1,i0]),(aR 0 [i1,i1,i0])]) <| sB (.not (aV 2)) <| sI (aV 3) (sR tB [(.bool false)]) <| sB (.call 109 [(aR 0 [i0,i1,i1,i0]),(aR 0 [i1,i1,i1,i0])]) <| sB (.not (aV 4)) <| sI (aV 5) (sR tB [(.bool false)]) <| sB (.call 22 [(aR 0 [i0,i1,i1,i1]),(aR 0 [i1,i1,i1,i1])]) <| sB (.not (aV 6)) <| sI (aV 7) (sR tB [(.bool false)]) <| sR tB [(.bool true)]
noncomputable def fn37 (x : sg37.p.den) : Option sg37.r.den := st37.den [⟨sg108.key, sg108.p, sg108.r, fn108⟩, ⟨sg109.key, sg109.p, sg109.r, fn109⟩, ⟨sg22.key, sg22.p, sg22.r, fn22⟩] [] sg37.r [⟨sg37.p, x⟩]
theorem spec37 : CallSpec Try.prog sg37 fn37 := spec (ss := [sg108, sg109, sg22]) (an := an37) (stm := st37) follows (Specs.cons spec108 (Specs.cons spec109 (Specs.cons spec22 (Specs.nil) (by kernel_rfl)) (by kernel_rfl)) (by kernel_rfl)) (by kernel_rfl) (by kernel_rfl) (fun _ => rfl)
theorem eq37 : fn37 = Pf.laws_eqLutNet := by kernel_rfl
-- spec.l28Le
def sg110 : Sig := ⟨110,110,[.val i1 (tP tI (tP (tS 145 (tP tI (tP tI (tS 3 tI)))) (tP (tS 168 (tP (tS 3 tI) tI)) (tS 3 tI)))),.val i1 (tP tI tI)],[.val i0 tB i1]⟩
def an110 : Ann := ⟨79,[(7,[0,2,3,1,4,5])],[],[],[],[(3,.unit,[(2,(.c (.h 0))),(3,(.c (.h 1)))],[(.box 55 [(sV (aR 0 [i0,i0])),(.s none (aR 0 [i0,i1,i0])),(.s none (aR 0 [i0,i1,i1,i0])),(.s none (aR 0 [i0,i1,i1,i1]))]),(.box 62 [(sV (aR 0 [i1,i0])),(sV (aR 0 [i1,i1]))])])]⟩
def st110 : Stm := sJ .unit (sB (.len (aR 0 [i0,i1,i1,i0])) <| sB (.bin .sub i6 (aV 1) (aI 1)) <| sB (.call 72 [(aR 0 [i1,i0]),(aI (-1)),(aV 2)]) <| sB (.not (aV 3)) <| sI (aV 4) (sU <| sR tB [(.bool false)]) <| sB (.len (aR 0 [i0,i1,i0])) <| sB (.bin .sub i6 (aV 5) (aI 1)) <| sB (.call 72 [(aR 0 [i1,i1]),(aI (-1)),(aV 6)]) <| sB (.not (aV 7)) <| sI (aV 8) (sU <| sR tB [(.bool false)]) <| sB (.cmp .lt i6 (aR 0 [i1,i0]) (aI 0)) <| sI (aV 9) (sB (.cmp .lt i6 (aR 0 [i1,i1]) (aI 0)) <| sI (aV 10) (sU <| sR tB [(.bool false)]) <| sN .unit []) <| sN .unit []) <| sB (.cmp .ge i6 (aR 0 [i1,i1]) (aI 0)) <| sI (aV 2) (sB (.get (aR 0 [i0,i1,i0]) (aR 0 [i1,i1])) <| sB (.cmp .ne i6 (aR 3 [i0]) (aI 0)) <| sI (aV 4) (sR tB [(.bool false)]) <| sB (.cmp .lt i6 (aR 0 [i1,i0]) (aI 0)) <| sI (aV 5) (sR tB [(.bool true)]) <| sB (.cmp .lt i6 (aR 0 [i1,i1]) (aI 0)) <| sI (aV 6) (sR tB [(.bool true)]) <| sB (.call 150 [(aR 0 [i0,i0]),(aR 0 [i0,i1,i0]),(aR 0 [i0,i1,i1,i0]),(aR 0 [i0,i1,i1,i1])]) <| sB (.bin .add i6 (aV 7) (aR 0 [i1,i0])) <| sB (.get (aR 0 [i0,i1,i0]) (aR 0 [i1,i1])) <| sB (.get (aR 9 [i1,i1]) (aI 0)) <| sB (.cmp .eq i6 (aV 10) (aV 8)) <| sI (aV 11) (sB (.call 102 [(aR 0 [i0,i0]),(aR 0 [i0,i1,i0]),(aR 0 [i0,i1,i1,i0]),(aR 0 [i0,i1,i1,i1])]) <| sB (.idx (aV 12) (aV 8)) <| sB (.get (aV 12) (aV 8)) <| sB (.cmp .eq i6 (aV 14) (aI 1)) <| sR tB [(aV 15)]) <| sR tB [(.bool false)]) <| sB (.cmp .lt i6 (aR 0 [i1,i0]) (aI 0)) <| sI (aV 3) (sR tB [(.bool true)]) <| sB (.cmp .lt i6 (aR 0 [i1,i1]) (aI 0)) <| sI (aV 4) (sR tB [(.bool true)]) <| sB (.call 150 [(aR 0 [i0,i0]),(aR 0 [i0,i1,i0]),(aR 0 [i0,i1,i1,i0]),(aR 0 [i0,i1,i1,i1])]) <| sB (.bin .add i6 (aV 5) (aR 0 [i1,i0])) <| sB (.get (aR 0 [i0,i1,i0]) (aR 0 [i1,i1])) <| sB (.get (aR 7 [i1,i1]) (aI 0)) <| sB (.cmp .eq i6 (aV 8) (aV 6)) <| sI (aV 9) (sB (.call 102 [(aR 0 [i0,i0]),(aR 0 [i0,i1,i0]),(aR 0 [i0,i1,i1,i0]),(aR 0 [i0,i1,i1,i1])]) <| sB (.idx (aV 10) (aV 6)) <| sB (.get (aV 10) (aV 6)) <| sB (.cmp .eq i6 (aV 12) (aI 1)) <| sR tB [(aV 13)]) <| sR tB [(.bool false)]
noncomputable def fn110 (x : sg110.p.den) : Option sg110.r.den := st110.den [⟨sg72.key, sg72.p, sg72.r, fn72⟩, ⟨sg150.key, sg150.p, sg150.r, fn150⟩, ⟨sg102.key, sg102.p, sg102.r, fn102⟩] [] sg110.r [⟨sg110.p, x⟩]
theorem spec110 : CallSpec Try.prog sg110 fn110 := spec (ss := [sg72, sg150, sg102]) (an := an110) (stm := st110) follows (Specs.cons spec72 (Specs.cons spec150 (Specs.cons spec102 (Specs.nil) (by kernel_rfl)) (by kernel_rfl)) (by kernel_rfl)) (by kernel_rfl) (by kernel_rfl) (fun _ => rfl)
theorem eq110 : fn110 = Pf.spec_l28Le := by kernel_rfl
-- impl.itemExists
def sg121 : Sig := ⟨121,121,[.val i1 (tP tI (tP (tS 145 (tP tI (tP tI (tS 3 tI)))) (tP (tS 168 (tP (tS 3 tI) tI)) (tS 3 tI)))),.val i1 (tP tI (tP tI (tS 62 (tP tI tI))))],[.val i0 tB i1]⟩
def an121 : Ann := ⟨49,[],[],[(1,tI,[(2,(.c (.h 0))),(38,(.c (.s none (aR 0 [i1,i1,i1])))),(39,(sW (aV 5))),(40,(sW (aV 6)))],[(.box 55 [(sV (aR 0 [i0,i0])),(.s none (aR 0 [i0,i1,i0])),(.s none (aR 0 [i0,i1,i1,i0])),(.s none (aR 0 [i0,i1,i1,i1]))]),.dead])],[],[]⟩
def st121 : Stm := sB (.cmp .eq i6 (aR 0 [i1,i0]) (aI 0)) <| sI (aV 1) (sB (.bin .sub i6 (aR 0 [i0,i0]) (aI 1)) <| sB (.call 78 [(aR 0 [i1,i1,i0]),(aI 0),(aV 2)]) <| sR tB [(aV 3)]) <| sB (.cmp .eq i6 (aR 0 [i1,i0]) (aI 1)) <| sI (aV 2) (sB (.len (aR 0 [i0,i1,i1,i1])) <| sB (.bin .sub i6 (aV 3) (aI 1)) <| sB (.call 78 [(aR 0 [i1,i1,i0]),(aI 0),(aV 4)]) <| sR tB [(aV 5)]) <| sB (.cmp .eq i6 (aR 0 [i1,i0]) (aI 2)) <| sI (aV 3) (sB (.len (aR 0 [i0,i1,i0])) <| sB (.bin .sub i6 (aV 4) (aI 1)) <| sB (.call 78 [(aR 0 [i1,i1,i0]),(aI 0),(aV 5)]) <| sR tB [(aV 6)]) <| sB (.cmp .eq i6 (aR 0 [i1,i0]) (aI 3)) <| sI (aV 4) (sB (.len (aR 0 [i1,i1,i1])) <| sL tI [(aI 0)] <| sB (.cmp .lt i6 (aV 6) (aV 5)) <| sI (aV 7) (sB (.get (aR 0 [i1,i1,i1]) (aV 6)) <| sB (.call 111 [(aR 0 [i0,i0]),(aR 0 [i0,i1,i0]),(aR 0 [i0,i1,i1,i0]),(aR 0 [i0,i1,i1,i1]),(aR 8 [i0]),(aR 8 [i1])]) <| sB (.not (aV 9)) <| sI (aV 10) (sU <| sR tB [(.bool false)]) <| sB (.bin .add i6 (aV 6) (aI 1)) <| sN tI [(aV 11)]) <| sU <| sR tB [(.bool true)]) <| sR tB [(.bool false)]
noncomputable def fn121 (x : sg121.p.den) : Option sg121.r.den := st121.den [⟨sg78.key, sg78.p, sg78.r, fn78⟩, ⟨sg111.key, sg111.p, sg111.r, fn111⟩] [] sg121.r [⟨sg121.p, x⟩]
theorem spec121 : CallSpec Try.prog sg121 fn121 := spec (ss := [sg78, sg111]) (an := an121) (stm := st121) follows (Specs.cons spec78 (Specs.cons spec111 (Specs.nil) (by kernel_rfl)) (by kernel_rfl)) (by kernel_rfl) (by kernel_rfl) (fun _ => rfl)
theorem eq121 : fn121 = Pf.impl_itemExists := by kernel_rfl
-- spec.l28Pins
def sg125 : Sig := ⟨125,125,[.val i1 (tP tI (tP (tS 145 (tP tI (tP tI (tS 3 tI)))) (tP (tS 168 (tP (tS 3 tI) tI)) (tS 3 tI)))),.val i0 (tS 62 (tP tI tI))],[.val i0 (tS 3 tI) i0]⟩
def an125 : Ann := ⟨36,[(6,[0,1,2,3,4,5,6,7,8]),(7,[0,1,2,3,4,5,6,7,8,9])],[],[(0,(tP tI (tP (tS 3 tI) (tS 3 tI))),[(1,(.c (.s none (aR 0 [i1])))),(2,(.c (.h 0))),(5,(.c (.h 1))),(6,(.c (.h 2))),(7,(sW (aR 1 [i0])))],[(.box 55 [(sV (aR 0 [i0,i0])),(.s none (aR 0 [i0,i1,i0])),(.s none (aR 0 [i0,i1,i1,i0])),(.s none (aR 0 [i0,i1,i1,i1]))]),(.list 3 tI (aR 1 [i1,i0]) i0 none),(.list 3 tI (aR 1 [i1,i1]) i0 none)])],[],[]⟩
def st125 : Stm := sL (tP tI (tP (tS 3 tI) (tS 3 tI))) [(aI 0),(.nil (tS 3 tI)),(.nil (tS 3 tI))] <| sB (.len (aR 0 [i1])) <| sB (.cmp .lt i6 (aR 1 [i0]) (aV 2)) <| sI (aV 3) (sB (.get (aR 0 [i1]) (aR 1 [i0])) <| sB (.call 114 [(aR 0 [i0,i0]),(aR 0 [i0,i1,i0]),(aR 0 [i0,i1,i1,i0]),(aR 0 [i0,i1,i1,i1]),(aR 4 [i0]),(aR 4 [i1])]) <| sB (.app 8 (aR 1 [i1,i0]) (aV 5)) <| sB (.get (aR 0 [i1]) (aR 1 [i0])) <| sB (.call 112 [(aR 0 [i0,i0]),(aR 0 [i0,i1,i0]),(aR 0 [i0,i1,i1,i0]),(aR 0 [i0,i1,i1,i1]),(aR 7 [i0]),(aR 7 [i1])]) <| sB (.lst 3 tI [[(aV 8)]]) <| sB (.app 8 (aR 1 [i1,i1]) (aV 9)) <| sB (.bin .add i6 (aR 1 [i0]) (aI 1)) <| sN (tP tI (tP (tS 3 tI) (tS 3 tI))) [(aV 11),(aV 6),(aV 10)]) <| sU <| sB (.call 160 [(aR 1 [i1,i0]),(aR 1 [i1,i1])]) <| sR (tS 3 tI) [(aV 4)]
noncomputable def fn125 (x : sg125.p.den) : Option sg125.r.den := st125.den [⟨sg114.key, sg114.p, sg114.r, fn114⟩, ⟨sg112.key, sg112.p, sg112.r, fn112⟩, ⟨sg160.key, sg160.p, sg160.r, fn160⟩] [] sg125.r [⟨sg125.p, x⟩]
theorem spec125 : CallSpec Try.prog sg125 fn125 := spec (ss := [sg114, sg112, sg160]) (an := an125) (stm := st125) follows (Specs.cons spec114 (Specs.cons spec112 (Specs.cons spec160 (Specs.nil) (by kernel_rfl)) (by kernel_rfl)) (by kernel_rfl)) (by kernel_rfl) (by kernel_rfl) (fun _ => rfl)
theorem eq125 : fn125 = Pf.spec_l28Pins := by kernel_rfl
-- impl.PinNodes
def sg55 : Sig := ⟨55,55,[.val i1 (tP tI (tP (tS 145 (tP tI (tP tI (tS 3 tI)))) (tP (tS 168 (tP (tS 3 tI) tI)) (tS 3 tI)))),.val i1 (tP tI (tP tI (tS 62 (tP tI tI))))],[.val i0 (tS 3 tI) i0]⟩
def an55 : Ann := ⟨17,[],[],[],[],[]⟩
def st55 : Stm := sB (.call 105 [(aR 0 [i0,i0]),(aR 0 [i0,i1,i0]),(aR 0 [i0,i1,i1,i0]),(aR 0 [i0,i1,i1,i1])]) <| sB (.not (aV 1)) <| sI (aV 2) (sR (tS 3 tI) [(.nil (tS 3 tI))]) <| sB (.call 121 [(aR 0 [i0,i0]),(aR 0 [i0,i1,i0]),(aR 0 [i0,i1,i1,i0]),(aR 0 [i0,i1,i1,i1]),(aR 0 [i1,i0]),(aR 0 [i1,i1,i0]),(aR 0 [i1,i1,i1])]) <| sB (.not (aV 3)) <| sI (aV 4) (sR (tS 3 tI) [(.nil (tS 3 tI))]) <| sB (.call 127 [(aR 0 [i0,i0]),(aR 0 [i0,i1,i0]),(aR 0 [i0,i1,i1,i0]),(aR 0 [i0,i1,i1,i1]),(aR 0 [i1,i0]),(aR 0 [i1,i1,i0]),(aR 0 [i1,i1,i1])]) <| sR (tS 3 tI) [(aV 5)]
noncomputable def fn55 (x : sg55.p.den) : Option sg55.r.den := st55.den [⟨sg105.key, sg105.p, sg105.r, fn105⟩, ⟨sg121.key, sg121.p, sg121.r, fn121⟩, ⟨sg127.key, sg127.p, sg127.r, fn127⟩] [] sg55.r [⟨sg55.p, x⟩]
theorem spec55 : CallSpec Try.prog sg55 fn55 := spec (ss := [sg105, sg121, sg127]) (an := an55) (stm := st55) follows (Specs.cons spec105 (Specs.cons spec121 (Specs.cons spec127 (Specs.nil) (by kernel_rfl)) (by kernel_rfl)) (by kernel_rfl)) (by kernel_rfl) (by kernel_rfl) (fun _ => rfl)
theorem eq55 : fn55 = Pf.impl_PinNodes := by kernel_rfl
-- spec.l28Known
def sg119 : Sig := ⟨119,119,[.val i1 (tP tI (tP (tS 145 (tP tI (tP tI (tS 3 tI)))) (tP (tS 168 (tP (tS 3 tI) tI)) (tS 3 tI)))),.val i1 (tP tI (tP tI (tS 62 (tP tI tI))))],[.val i0 tB i1]⟩
def an119 : Ann := ⟨67,[(13,[0,1,2,3,4,5,6,7])],[],[(1,tI,[(2,(.c (.h 0))),(3,(.c (.h 1))),(5,(sW (aV 6)))],[(.box 55 [(sV (aR 0 [i0,i0])),(.s none (aR 0 [i0,i1,i0])),(.s none (aR 0 [i0,i1,i1,i0])),(.s none (aR 0 [i0,i1,i1,i1]))]),(.box 74 [(sV (aR 0 [i1,i0])),(sV (aR 0 [i1,i1,i0])),(.s none (aR 0 [i1,i1,i1]))])])],[],[]⟩
def st119 : Stm := sB (.call 100 [(aR 0 [i0,i0]),(aR 0 [i0,i1,i0]),(aR 0 [i0,i1,i1,i0]),(aR 0 [i0,i1,i1,i1])]) <| sB (.not (aV 1)) <| sI (aV 2) (sR tB [(.bool false)]) <| sB (.cmp .eq i6 (aR 0 [i1,i0]) (aI 0)) <| sI (aV 3) (sB (.cmp .ge i6 (aR 0 [i1,i1,i0]) (aI 0)) <| sI (aV 4) (sB (.cmp .lt i6 (aR 0 [i1,i1,i0]) (aR 0 [i0,i0])) <| sR tB [(aV 5)]) <| sR tB [(.bool false)]) <| sB (.cmp .eq i6 (aR 0 [i1,i0]) (aI 1)) <| sI (aV 4) (sB (.cmp .ge i6 (aR 0 [i1,i1,i0]) (aI 0)) <| sI (aV 5) (sB (.len (aR 0 [i0,i1,i1,i1])) <| sB (.cmp .lt i6 (aR 0 [i1,i1,i0]) (aV 6)) <| sR tB [(aV 7)]) <| sR tB [(.bool false)]) <| sB (.cmp .eq i6 (aR 0 [i1,i0]) (aI 2)) <| sI (aV 5) (sB (.cmp .ge i6 (aR 0 [i1,i1,i0]) (aI 0)) <| sI (aV 6) (sB (.len (aR 0 [i0,i1,i0])) <| sB (.cmp .lt i6 (aR 0 [i1,i1,i0]) (aV 7)) <| sR tB [(aV 8)]) <| sR tB [(.bool false)]) <| sL tI [(aI 0)] <| sB (.len (aR 0 [i1,i1,i1])) <| sB (.cmp .lt i6 (aV 6) (aV 7)) <| sI (aV 8) (sB (.get (aR 0 [i1,i1,i1]) (aV 6)) <| sB (.call 110 [(aR 0 [i0,i0]),(aR 0 [i0,i1,i0]),(aR 0 [i0,i1,i1,i0]),(aR 0 [i0,i1,i1,i1]),(aR 9 [i0]),(aR 9 [i1])]) <| sB (.not (aV 10)) <| sI (aV 11) (sU <| sR tB [(.bool false)]) <| sB (.bin .add i6 (aV 6) (aI 1)) <| sN tI [(aV 12)]) <| sU <| sB (.cmp .eq i6 (aR 0 [i1,i0]) (aI 3)) <| sR tB [(aV 9)]
noncomputable def fn119 (x : sg119.p.den) : Option sg119.r.den := st119.den [⟨sg100.key, sg100.p, sg100.r, fn100⟩, ⟨sg110.key, sg110.p, sg110.r, fn110⟩] [] sg119.r [⟨sg119.p, x⟩]
theorem spec119 : CallSpec Try.prog sg119 fn119 := spec (ss := [sg100, sg110]) (an := an119) (stm := st119) follows (Specs.cons spec100 (Specs.cons spec110 (Specs.nil) (by kernel_rfl)) (by kernel_rfl)) (by kernel_rfl) (by kernel_rfl) (fun _ => rfl)
theorem eq119 : fn119 = Pf.spec_l28Known := by kernel_rfl
-- spec.PinNodes
def sg54 : Sig := ⟨54,54,[.val i1 (tP tI (tP (tS 145 (tP tI (tP tI (tS 3 tI)))) (tP (tS 168 (tP (tS 3 tI) tI)) (tS 3 tI)))),.val i1 (tP tI (tP tI (tS 62 (tP tI tI))))],[.val i0 (tS 3 tI) i0]⟩
def an54 : Ann := ⟨39,[],[],[],[],[]⟩
def st54 : Stm := sB (.call 119 [(aR 0 [i0,i0]),(aR 0 [i0,i1,i0]),(aR 0 [i0,i1,i1,i0]),(aR 0 [i0,i1,i1,i1]),(aR 0 [i1,i0]),(aR 0 [i1,i1,i0]),(aR 0 [i1,i1,i1])]) <| sB (.not (aV 1)) <| sI (aV 2) (sR (tS 3 tI) [(.nil (tS 3 tI))]) <| sB (.cmp .eq i6 (aR 0 [i1,i0]) (aI 0)) <| sI (aV 3) (sR (tS 3 tI) [(.nil (tS 3 tI))]) <| sB (.cmp .eq i6 (aR 0 [i1,i0]) (aI 1)) <| sI (aV 4) (sB (.get (aR 0 [i0,i1,i1,i1]) (aR 0 [i1,i1,i0])) <| sB (.lst 3 tI [[(aV 5)]]) <| sR (tS 3 tI) [(aV 6)]) <| sB (.cmp .eq i6 (aR 0 [i1,i0]) (aI 2)) <| sI (aV 5) (sB (.get (aR 0 [i0,i1,i0]) (aR 0 [i1,i1,i0])) <| sB (.app 8 (.nil (tS 3 tI)) (aR 6 [i1,i1])) <| sR (tS 3 tI) [(aV 7)]) <| sB (.call 125 [(aR 0 [i0,i0]),(aR 0 [i0,i1,i0]),(aR 0 [i0,i1,i1,i0]),(aR 0 [i0,i1,i1,i1]),(aR 0 [i1,i1,i1])]) <| sR (tS 3 tI) [(aV 6)]
noncomputable def fn54 (x : sg54.p.den) : Option sg54.r.den := st54.den [⟨sg119.key, sg119.p, sg119.r, fn119⟩, ⟨sg125.key, sg125.p, sg125.r, fn125⟩] [] sg54.r [⟨sg54.p, x⟩]
theorem spec54 : CallSpec Try.prog sg54 fn54 := spec (ss := [sg119, sg125]) (an := an54) (stm := st54) follows (Specs.cons spec119 (Specs.cons spec125 (Specs.nil) (by kernel_rfl)) (by kernel_rfl)) (by kernel_rfl) (by kernel_rfl) (fun _ => rfl)
theorem eq54 : fn54 = Pf.spec_PinNodes := by kernel_rfl
-- laws.FnExactPinNodes
def sg12 : Sig := ⟨12,12,[.val i1 (tP tI (tP (tS 164 (tP tI (tP tI (tS 3 tI)))) (tP (tS 167 (tP (tS 3 tI) tI)) (tS 3 tI)))),.val i1 (tP tI (tP tI (tS 60 (tP tI tI))))],[.val i0 tB i1]⟩
def an12 : Ann := ⟨92,[(8,[0,2,1,3,4,5]),(14,[0,1,2,3,4]),(16,[0,1,2,3,4]),(31,[0,2,1,3,4,5])],[],[],[],[]⟩
def st12 : Stm := sB (.call 33 [(aR 0 [i0,i0]),(aR 0 [i0,i1,i0]),(aR 0 [i0,i1,i1,i0]),(aR 0 [i0,i1,i1,i1]),(aI 1048576)]) <| sB (.cmp .lt i6 (aV 1) (aI 0)) <| sI (aV 2) (sR tB [(.bool true)]) <| sB (.call 46 [(aR 0 [i1,i0]),(aR 0 [i1,i1,i0]),(aR 0 [i1,i1,i1]),(aV 1)]) <| sB (.cmp .lt i6 (aV 3) (aI 0)) <| sI (aV 4) (sR tB [(.bool true)]) <| sB (.call 35 [(aR 0 [i0,i0]),(aR 0 [i0,i1,i0]),(aR 0 [i0,i1,i1,i0]),(aR 0 [i0,i1,i1,i1])]) <| sB (.call 48 [(aR 0 [i1,i0]),(aR 0 [i1,i1,i0]),(aR 0 [i1,i1,i1])]) <| sB (.call 54 [(aR 5 [i0]),(aR 5 [i1,i0]),(aR 5 [i1,i1,i0]),(aR 5 [i1,i1,i1]),(aR 6 [i0]),(aR 6 [i1,i0]),(aR 6 [i1,i1])]) <| sB (.call 35 [(aR 0 [i0,i0]),(aR 0 [i0,i1,i0]),(aR 0 [i0,i1,i1,i0]),(aR 0 [i0,i1,i1,i1])]) <| sB (.call 48 [(aR 0 [i1,i0]),(aR 0 [i1,i1,i0]),(aR 0 [i1,i1,i1])]) <| sB (.call 55 [(aR 8 [i0]),(aR 8 [i1,i0]),(aR 8 [i1,i1,i0]),(aR 8 [i1,i1,i1]),(aR 9 [i0]),(aR 9 [i1,i0]),(aR 9 [i1,i1])]) <| sB (.call 22 [(aV 10),(aV 7)]) <| sB (.not (aV 11)) <| sI (aV 12) (sR tB [(.bool false)]) <| sB (.call 35 [(aR 0 [i0,i0]),(aR 0 [i0,i1,i0]),(aR 0 [i0,i1,i1,i0]),(aR 0 [i0,i1,i1,i1])]) <| sB (.call 37 [(aR 8 [i0]),(aR 8 [i1,i0]),(aR 8 [i1,i1,i0]),(aR 8 [i1,i1,i1]),(aR 13 [i0]),(aR 13 [i1,i0]),(aR 13 [i1,i1,i0]),(aR 13 [i1,i1,i1])]) <| sB (.not (aV 14)) <| sI (aV 15) (sR tB [(.bool false)]) <| sB (.call 48 [(aR 0 [i1,i0]),(aR 0 [i1,i1,i0]),(aR 0 [i1,i1,i1])]) <| sB (.call 50 [(aR 9 [i0]),(aR 9 [i1,i0]),(aR 9 [i1,i1]),(aR 16 [i0]),(aR 16 [i1,i0]),(aR 16 [i1,i1])]) <| sB (.not (aV 17)) <| sI (aV 18) (sR tB [(.bool false)]) <| sB (.call 45 [(aR 8 [i0]),(aR 8 [i1,i0]),(aR 8 [i1,i1,i0]),(aR 8 [i1,i1,i1]),(aI 1)]) <| sB (.call 51 [(aR 9 [i0]),(aR 9 [i1,i0]),(aR 9 [i1,i1]),(aR 19 [i0])]) <| sB (.cmp .lt i6 (aR 20 [i0]) (aI 0)) <| sI (aV 21) (sR tB [(.bool false)]) <| sB (.call 22 [(aV 10),(aV 7)]) <| sB (.not (aV 22)) <| sI (aV 23) (sR tB [(.bool false)]) <| sB (.call 24 [(aV 10),(aI 1)]) <| sB (.call 30 [(aR 24 [i1]),(aI 1)]) <| sB (.cmp .lt i6 (aV 25) (aI 0)) <| sI (aV 26) (sR tB [(.bool false)]) <| sB (.cmp .ne i6 (aV 25) (aR 24 [i0])) <| sI (aV 27) (sR tB [(.bool false)]) <| sB (.call 35 [(aR 0 [i0,i0]),(aR 0 [i0,i1,i0]),(aR 0 [i0,i1,i1,i0]),(aR 0 [i0,i1,i1,i1])]) <| sB (.call 48 [(aR 0 [i1,i0]),(aR 0 [i1,i1,i0]),(aR 0 [i1,i1,i1])]) <| sB (.call 55 [(aR 28 [i0]),(aR 28 [i1,i0]),(aR 28 [i1,i1,i0]),(aR 28 [i1,i1,i1]),(aR 29 [i0]),(aR 29 [i1,i0]),(aR 29 [i1,i1])]) <| sB (.call 22 [(aV 30),(aV 7)]) <| sB (.not (aV 31)) <| sI (aV 32) (sR tB [(.bool false)]) <| sB (.call 30 [(aR 24 [i1]),(aI 1)]) <| sB (.cmp .lt i6 (aV 33) (aI 0)) <| sI (aV 34) (sR tB [(.bool false)]) <| sB (.cmp .ne i6 (aV 33) (aR 24 [i0])) <| sI (aV 35) (sR tB [(.bool false)]) <| sR tB [(.bool true)]
noncomputable def fn12 (x : sg12.p.den) : Option sg12.r.den := st12.den [⟨sg33.key, sg33.p, sg33.r, fn33⟩, ⟨sg46.key, sg46.p, sg46.r, fn46⟩, ⟨sg35.key, sg35.p, sg35.r, fn35⟩, ⟨sg48.key, sg48.p, sg48.r, fn48⟩, ⟨sg54.key, sg54.p, sg54.r, fn54⟩, ⟨sg55.key, sg55.p, sg55.r, fn55⟩, ⟨sg22.key, sg22.p, sg22.r, fn22⟩, ⟨sg37.key, sg37.p, sg37.r, fn37⟩, ⟨sg50.key, sg50.p, sg50.r, fn50⟩, ⟨sg45.key, sg45.p, sg45.r, fn45⟩, ⟨sg51.key, sg51.p, sg51.r, fn51⟩, ⟨sg24.key, sg24.p, sg24.r, fn24⟩, ⟨sg30.key, sg30.p, sg30.r, fn30⟩] [] sg12.r [⟨sg12.p, x⟩]
theorem spec12 : CallSpec Try.prog sg12 fn12 := spec (ss := [sg33, sg46, sg35, sg48, sg54, sg55, sg22, sg37, sg50, sg45, sg51, sg24, sg30]) (an := an12) (stm := st12) follows (Specs.cons spec33 (Specs.cons spec46 (Specs.cons spec35 (Specs.cons spec48 (Specs.cons spec54 (Specs.cons spec55 (Specs.cons spec22 (Specs.cons spec37 (Specs.cons spec50 (Specs.cons spec45 (Specs.cons spec51 (Specs.cons spec24 (Specs.cons spec30 (Specs.nil) (by kernel_rfl)) (by kernel_rfl)) (by kernel_rfl)) (by kernel_rfl)) (by kernel_rfl)) (by kernel_rfl)) (by kernel_rfl)) (by kernel_rfl)) (by kernel_rfl)) (by kernel_rfl)) (by kernel_rfl)) (by kernel_rfl)) (by kernel_rfl)) (by kernel_rfl) (by kernel_rfl) (fun _ => rfl)
theorem eq12 : fn12 = Pf.laws_FnExactPinNodes := by kernel_rfl
end Go.Proofs.Ytlfmlhoajobafaa
