/-
  Own work, printed by my tool: signatures, annotations and the compiled statements of the functions that the law reaches; each one's contract.
-/
import Derived.Test.YtamaghlnjchhbaaD
import Derived.Test.YtamaghlnjchhbaaProg
namespace Go.Proofs.Ytamaghlnjchhbaa
open Go Go.Pu Go.Proofs
theorem follows : Try.prog.follows .mixedOrders = true := by kernel_rfl
-- laws.eqIntS
def sg18 : Sig := ⟨18,18,[.val i0 (tS 3 tI),.val i0 (tS 3 tI)],[.val i0 tB i1]⟩
def an18 : Ann := ⟨26,[(6,[0,1,2,3,4,5,6,7,8])],[],[(0,tI,[(0,(.c (.s none (aR 0 [i0])))),(1,(.c (.s none (aR 0 [i1])))),(5,(sW (aV 4)))],[])],[],[]⟩
def st18 : Stm := sB (.len (aR 0 [i0])) <| sB (.len (aR 0 [i1])) <| sB (.cmp .ne i6 (aV 1) (aV 2)) <| sI (aV 3) (sR tB [(.bool false)]) <| sL tI [(aI 0)] <| sB (.len (aR 0 [i0])) <| sB (.cmp .lt i6 (aV 4) (aV 5)) <| sI (aV 6) (sB (.get (aR 0 [i0]) (aV 4)) <| sB (.get (aR 0 [i1]) (aV 4)) <| sB (.cmp .ne i6 (aV 7) (aV 8)) <| sI (aV 9) (sU <| sR tB [(.bool false)]) <| sB (.bin .add i6 (aV 4) (aI 1)) <| sN tI [(aV 10)]) <| sU <| sR tB [(.bool true)]
noncomputable def fn18 (x : sg18.p.den) : Option sg18.r.den := st18.den [] [] sg18.r [⟨sg18.p, x⟩]
theorem spec18 : CallSpec Try.prog sg18 fn18 := spec (ss := []) (an := an18) (stm := st18) follows (Specs.nil) (by kernel_rfl) (by kernel_rfl) (fun _ => rfl)
theorem eq18 : fn18 = Pf.laws_eqIntS := by kernel_rfl
-- laws.markIntS
def sg21 : Sig := ⟨21,21,[.own i0 (tS 3 tI) i1,.val i0 tI],[.val i0 tI i1]⟩
def an21 : Ann := ⟨19,[],[],[(0,(tP tI (tP tI (tS 3 tI))),[(0,(.c (.h 0))),(1,(sW (aR 1 [i0]))),(5,(sW (aR 1 [i1,i0])))],[(.list 3 tI (aR 1 [i1,i1]) i0 none)])],[],[]⟩
def st21 : Stm := sL (tP tI (tP tI (tS 3 tI))) [(aR 0 [i1]),(aI 0),(aR 0 [i0])] <| sB (.len (aR 1 [i1,i1])) <| sB (.cmp .lt i6 (aR 1 [i1,i0]) (aV 2)) <| sI (aV 3) (sB (.idx (aR 1 [i1,i1]) (aR 1 [i1,i0])) <| sB (.get (aR 1 [i1,i1]) (aR 1 [i1,i0])) <| sB (.mk tI [(aR 1 [i0])]) <| sB (.set (aR 1 [i1,i1]) (aR 1 [i1,i0]) (aV 6)) <| sB (.bin .add i6 (aR 1 [i0]) (aI 1)) <| sB (.bin .add i6 (aR 1 [i1,i0]) (aI 1)) <| sN (tP tI (tP tI (tS 3 tI))) [(aV 8),(aV 9),(aV 7)]) <| sU <| sR (tP tI (tS 3 tI)) [(aR 1 [i0]),(aR 1 [i1,i1])]
noncomputable def fn21 (x : sg21.p.den) : Option sg21.r.den := st21.den [] [] sg21.r [⟨sg21.p, x⟩]
theorem spec21 : CallSpec Try.prog sg21 fn21 := spec (ss := []) (an := an21) (stm := st21) follows (Specs.nil) (by kernel_rfl) (by kernel_rfl) (fun _ => rfl)
theorem eq21 : fn21 = Pf.laws_markIntS := by kernel_rfl
-- laws.heldIntS
def sg22 : Sig := ⟨22,22,[.val i0 (tS 3 tI),.val i0 tI],[.val i0 tI i1]⟩
def an22 : Ann := ⟨21,[],[],[(0,(tP tI tI),[(0,(.c (.s none (aR 0 [i0])))),(1,(sW (aR 1 [i0]))),(5,(sW (aR 1 [i1])))],[])],[],[]⟩
def st22 : Stm := sL (tP tI tI) [(aR 0 [i1]),(aI 0)] <| sB (.len (aR 0 [i0])) <| sB (.cmp .lt i6 (aR 1 [i1]) (aV 2)) <| sI (aV 3) (sB (.get (aR 0 [i0]) (aR 1 [i1])) <| sB (.cmp .ne i6 (aV 4) (aR 1 [i0])) <| sI (aV 5) (sU <| sR tI [(aI (-1))]) <| sB (.bin .add i6 (aR 1 [i0]) (aI 1)) <| sB (.bin .add i6 (aR 1 [i1]) (aI 1)) <| sN (tP tI tI) [(aV 6),(aV 7)]) <| sU <| sR tI [(aR 1 [i0])]
noncomputable def fn22 (x : sg22.p.den) : Option sg22.r.den := st22.den [] [] sg22.r [⟨sg22.p, x⟩]
theorem spec22 : CallSpec Try.prog sg22 fn22 := spec (ss := []) (an := an22) (stm := st22) follows (Specs.nil) (by kernel_rfl) (by kernel_rfl) (fun _ => rfl)
theorem eq22 : fn22 = Pf.laws_heldIntS := by kernel_rfl
-- laws.toDevice
def sg24 : Sig := ⟨24,24,[.val i1 (tP tI (tP tI (tP tI tI)))],[.val i1 (tP tI (tP tI (tP tI tI))) i1]⟩
def an24 : Ann := ⟨17,[],[],[],[],[]⟩
def st24 : Stm := sR (tP tI (tP tI (tP tI tI))) [(aR 0 [i0]),(aR 0 [i1,i0]),(aR 0 [i1,i1,i0]),(aR 0 [i1,i1,i1])]
noncomputable def fn24 (x : sg24.p.den) : Option sg24.r.den := st24.den [] [] sg24.r [⟨sg24.p, x⟩]
theorem spec24 : CallSpec Try.prog sg24 fn24 := spec (ss := []) (an := an24) (stm := st24) follows (Specs.nil) (by kernel_rfl) (by kernel_rfl) (fun _ => rfl)
theorem eq24 : fn24 = Pf.laws_toDevice := by kernel_rfl
-- laws.toIntS
def sg25 : Sig := ⟨25,25,[.val i0 (tS 3 tI)],[.val i0 (tS 3 tI) i0]⟩
def an25 : Ann := ⟨22,[],[],[(0,(tP tI (tS 3 tI)),[(0,(.c (.s none (aV 0)))),(3,(.c (.h 0))),(4,(sW (aR 3 [i0])))],[(.list 3 tI (aR 3 [i1]) i0 none)])],[],[]⟩
def st25 : Stm := sB (.len (aV 0)) <| sB (.make 8 3 tI (aV 1)) <| sL (tP tI (tS 3 tI)) [(aI 0),(aV 2)] <| sB (.len (aV 0)) <| sB (.cmp .lt i6 (aR 3 [i0]) (aV 4)) <| sI (aV 5) (sB (.get (aV 0) (aR 3 [i0])) <| sB (.idx (aR 3 [i1]) (aR 3 [i0])) <| sB (.get (aR 3 [i1]) (aR 3 [i0])) <| sB (.mk tI [(aV 6)]) <| sB (.set (aR 3 [i1]) (aR 3 [i0]) (aV 9)) <| sB (.bin .add i6 (aR 3 [i0]) (aI 1)) <| sN (tP tI (tS 3 tI)) [(aV 11),(aV 10)]) <| sU <| sR (tS 3 tI) [(aR 3 [i1])]
noncomputable def fn25 (x : sg25.p.den) : Option sg25.r.den := st25.den [] [] sg25.r [⟨sg25.p, x⟩]
theorem spec25 : CallSpec Try.prog sg25 fn25 := spec (ss := []) (an := an25) (stm := st25) follows (Specs.nil) (by kernel_rfl) (by kernel_rfl) (fun _ => rfl)
theorem eq25 : fn25 = Pf.laws_toIntS := by kernel_rfl
-- impl.inRange
def sg60 : Sig := ⟨60,60,[.val i0 tI,.val i0 tI,.val i0 tI],[.val i0 tB i1]⟩
def an60 : Ann := ⟨15,[],[],[],[],[]⟩
def st60 : Stm := sB (.cmp .ge i6 (aR 0 [i0]) (aR 0 [i1,i0])) <| sI (aV 1) (sB (.cmp .le i6 (aR 0 [i0]) (aR 0 [i1,i1])) <| sR tB [(aV 2)]) <| sR tB [(.bool false)]
noncomputable def fn60 (x : sg60.p.den) : Option sg60.r.den := st60.den [] [] sg60.r [⟨sg60.p, x⟩]
theorem spec60 : CallSpec Try.prog sg60 fn60 := spec (ss := []) (an := an60) (stm := st60) follows (Specs.nil) (by kernel_rfl) (by kernel_rfl) (fun _ => rfl)
theorem eq60 : fn60 = Pf.impl_inRange := by kernel_rfl
-- spec.BlockTile
def sg63 : Sig := ⟨63,63,[.val i0 tI],[.val i0 tI i1]⟩
def an63 : Ann := ⟨11,[],[],[],[],[]⟩
def st63 : Stm := sB (.cmp .eq i6 (aV 0) (aI 0)) <| sI (aV 1) (sI (aV 1) (sR tI [(aI 0)]) <| sB (.cmp .eq i6 (aV 0) (aI 2)) <| sI (aV 2) (sR tI [(aI 2)]) <| sB (.cmp .eq i6 (aV 0) (aI 3)) <| sI (aV 3) (sR tI [(aI 1)]) <| sR tI [(aI (-1))]) <| sB (.cmp .eq i6 (aV 0) (aI 1)) <| sI (aV 2) (sR tI [(aI 0)]) <| sB (.cmp .eq i6 (aV 0) (aI 2)) <| sI (aV 3) (sR tI [(aI 2)]) <| sB (.cmp .eq i6 (aV 0) (aI 3)) <| sI (aV 4) (sR tI [(aI 1)]) <| sR tI [(aI (-1))]
noncomputable def fn63 (x : sg63.p.den) : Option sg63.r.den := st63.den [] [] sg63.r [⟨sg63.p, x⟩]
theorem spec63 : CallSpec Try.prog sg63 fn63 := spec (ss := []) (an := an63) (stm := st63) follows (Specs.nil) (by kernel_rfl) (by kernel_rfl) (fun _ => rfl)
theorem eq63 : fn63 = Pf.spec_BlockTile := by kernel_rfl
-- impl.BlockTile
def sg65 : Sig := ⟨65,65,[.val i0 tI],[.val i0 tI i1]⟩
def an65 : Ann := ⟨11,[],[],[],[],[]⟩
def st65 : Stm := sB (.cmp .eq i6 (aV 0) (aI 0)) <| sI (aV 1) (sI (aV 1) (sR tI [(aI 0)]) <| sB (.cmp .eq i6 (aV 0) (aI 2)) <| sI (aV 2) (sR tI [(aI 2)]) <| sB (.cmp .eq i6 (aV 0) (aI 3)) <| sI (aV 3) (sR tI [(aI 1)]) <| sR tI [(aI (-1))]) <| sB (.cmp .eq i6 (aV 0) (aI 1)) <| sI (aV 2) (sR tI [(aI 0)]) <| sB (.cmp .eq i6 (aV 0) (aI 2)) <| sI (aV 3) (sR tI [(aI 2)]) <| sB (.cmp .eq i6 (aV 0) (aI 3)) <| sI (aV 4) (sR tI [(aI 1)]) <| sR tI [(aI (-1))]
noncomputable def fn65 (x : sg65.p.den) : Option sg65.r.den := st65.den [] [] sg65.r [⟨sg65.p, x⟩]
theorem spec65 : CallSpec Try.prog sg65 fn65 := spec (ss := []) (an := an65) (stm := st65) follows (Specs.nil) (by kernel_rfl) (by kernel_rfl) (fun _ => rfl)
theorem eq65 : fn65 = Pf.impl_BlockTile := by kernel_rfl
-- impl.hasInt
def sg66 : Sig := ⟨66,66,[.val i0 (tS 3 tI),.val i0 tI],[.val i0 tB i1]⟩
def an66 : Ann := ⟨17,[],[],[(0,tI,[(1,(sW (aR 0 [i1]))),(7,(.c (.s none (aR 0 [i0])))),(8,(sW (aV 1))),(9,(sW (aV 2)))],[])],[],[]⟩
def st66 : Stm := sB (.len (aR 0 [i0])) <| sL tI [(aI 0)] <| sB (.cmp .lt i6 (aV 2) (aV 1)) <| sI (aV 3) (sB (.get (aR 0 [i0]) (aV 2)) <| sB (.cmp .eq i6 (aV 4) (aR 0 [i1])) <| sI (aV 5) (sU <| sR tB [(.bool true)]) <| sB (.bin .add i6 (aV 2) (aI 1)) <| sN tI [(aV 6)]) <| sU <| sR tB [(.bool false)]
noncomputable def fn66 (x : sg66.p.den) : Option sg66.r.den := st66.den [] [] sg66.r [⟨sg66.p, x⟩]
theorem spec66 : CallSpec Try.prog sg66 fn66 := spec (ss := []) (an := an66) (stm := st66) follows (Specs.nil) (by kernel_rfl) (by kernel_rfl) (fun _ => rfl)
theorem eq66 : fn66 = Pf.impl_hasInt := by kernel_rfl
-- spec.l01In
def sg67 : Sig := ⟨67,67,[.val i0 tI,.val i0 tI,.val i0 tI],[.val i0 tB i1]⟩
def an67 : Ann := ⟨15,[],[],[],[],[]⟩
def st67 : Stm := sB (.cmp .ge i6 (aR 0 [i0]) (aR 0 [i1,i0])) <| sI (aV 1) (sB (.cmp .le i6 (aR 0 [i0]) (aR 0 [i1,i1])) <| sR tB [(aV 2)]) <| sR tB [(.bool false)]
noncomputable def fn67 (x : sg67.p.den) : Option sg67.r.den := st67.den [] [] sg67.r [⟨sg67.p, x⟩]
theorem spec67 : CallSpec Try.prog sg67 fn67 := spec (ss := []) (an := an67) (stm := st67) follows (Specs.nil) (by kernel_rfl) (by kernel_rfl) (fun _ => rfl)
theorem eq67 : fn67 = Pf.spec_l01In := by kernel_rfl
-- impl.copyInts
def sg78 : Sig := ⟨78,78,[.val i0 (tS 3 tI)],[.val i0 (tS 3 tI) i0]⟩
def an78 : Ann := ⟨6,[],[],[],[],[]⟩
def st78 : Stm := sB (.app 8 (.nil (tS 3 tI)) (aV 0)) <| sR (tS 3 tI) [(aV 1)]
noncomputable def fn78 (x : sg78.p.den) : Option sg78.r.den := st78.den [] [] sg78.r [⟨sg78.p, x⟩]
theorem spec78 : CallSpec Try.prog sg78 fn78 := spec (ss := []) (an := an78) (stm := st78) follows (Specs.nil) (by kernel_rfl) (by kernel_rfl) (fun _ => rfl)
theorem eq78 : fn78 = Pf.impl_copyInts := by kernel_rfl
-- impl.tileKind
def sg85 : Sig := ⟨85,85,[.val i1 (tP tI (tP tI (tP tI tI))),.val i0 tI],[.val i0 tI i1]⟩
def an85 : Ann := ⟨41,[(1,[0,1,2,3,4,5,6,7,8,9])],[],[],[],[]⟩
def st85 : Stm := sB (.rem i6 (aR 0 [i1]) (aR 0 [i0,i0])) <| sB (.div i6 (aR 0 [i1]) (aR 0 [i0,i0])) <| sB (.cmp .eq i6 (aV 1) (aI 0)) <| sI (aV 3) (sR tI [(aI 0)]) <| sB (.bin .sub i6 (aR 0 [i0,i0]) (aI 1)) <| sB (.cmp .eq i6 (aV 1) (aV 4)) <| sI (aV 5) (sR tI [(aI 0)]) <| sB (.cmp .eq i6 (aV 2) (aI 0)) <| sI (aV 6) (sR tI [(aI 0)]) <| sB (.bin .sub i6 (aR 0 [i0,i1,i0]) (aI 1)) <| sB (.cmp .eq i6 (aV 2) (aV 7)) <| sI (aV 8) (sR tI [(aI 0)]) <| sB (.cmp .eq i6 (aV 1) (aR 0 [i0,i1,i1,i1])) <| sI (aV 9) (sR tI [(aI 2)]) <| sR tI [(aI 1)]
noncomputable def fn85 (x : sg85.p.den) : Option sg85.r.den := st85.den [] [] sg85.r [⟨sg85.p, x⟩]
theorem spec85 : CallSpec Try.prog sg85 fn85 := spec (ss := []) (an := an85) (stm := st85) follows (Specs.nil) (by kernel_rfl) (by kernel_rfl) (fun _ => rfl)
theorem eq85 : fn85 = Pf.impl_tileKind := by kernel_rfl
-- spec.DeviceOk
def sg61 : Sig := ⟨61,61,[.val i1 (tP tI (tP tI (tP tI tI)))],[.val i0 tB i1]⟩
def an61 : Ann := ⟨29,[],[],[],[],[]⟩
def st61 : Stm := sB (.call 67 [(aR 0 [i0]),(aI 3),(aI 6)]) <| sI (aV 1) (sB (.call 67 [(aR 0 [i1,i0]),(aI 3),(aI 6)]) <| sI (aV 2) (sB (.call 67 [(aR 0 [i1,i1,i0]),(aI 1),(aI 4)]) <| sI (aV 3) (sB (.cmp .eq i6 (aR 0 [i1,i1,i1]) (aI (-1))) <| sI (aV 4) (sR tB [(.bool true)]) <| sB (.bin .sub i6 (aR 0 [i0]) (aI 2)) <| sB (.call 67 [(aR 0 [i1,i1,i1]),(aI 1),(aV 5)]) <| sR tB [(aV 6)]) <| sR tB [(.bool false)]) <| sR tB [(.bool false)]) <| sR tB [(.bool false)]
noncomputable def fn61 (x : sg61.p.den) : Option sg61.r.den := st61.den [⟨sg67.key, sg67.p, sg67.r, fn67⟩] [] sg61.r [⟨sg61.p, x⟩]
theorem spec61 : CallSpec Try.prog sg61 fn61 := spec (ss := [sg67]) (an := an61) (stm := st61) follows (Specs.cons spec67 (Specs.nil) (by kernel_rfl)) (by kernel_rfl) (by kernel_rfl) (fun _ => rfl)
theorem eq61 : fn61 = Pf.spec_DeviceOk := by kernel_rfl
-- impl.DeviceOk
def sg64 : Sig := ⟨64,64,[.val i1 (tP tI (tP tI (tP tI tI)))],[.val i0 tB i1]⟩
def an64 : Ann := ⟨29,[],[],[],[],[]⟩
def st64 : Stm := sB (.call 60 [(aR 0 [i0]),(aI 3),(aI 6)]) <| sI (aV 1) (sB (.call 60 [(aR 0 [i1,i0]),(aI 3),(aI 6)]) <| sI (aV 2) (sB (.call 60 [(aR 0 [i1,i1,i0]),(aI 1),(aI 4)]) <| sI (aV 3) (sB (.cmp .eq i6 (aR 0 [i1,i1,i1]) (aI (-1))) <| sI (aV 4) (sR tB [(.bool true)]) <| sB (.bin .sub i6 (aR 0 [i0]) (aI 2)) <| sB (.call 60 [(aR 0 [i1,i1,i1]),(aI 1),(aV 5)]) <| sR tB [(aV 6)]) <| sR tB [(.bool false)]) <| sR tB [(.bool false)]) <| sR tB [(.bool false)]
noncomputable def fn64 (x : sg64.p.den) : Option sg64.r.den := st64.den [⟨sg60.key, sg60.p, sg60.r, fn60⟩] [] sg64.r [⟨sg64.p, x⟩]
theorem spec64 : CallSpec Try.prog sg64 fn64 := spec (ss := [sg60]) (an := an64) (stm := st64) follows (Specs.cons spec60 (Specs.nil) (by kernel_rfl)) (by kernel_rfl) (by kernel_rfl) (fun _ => rfl)
theorem eq64 : fn64 = Pf.impl_DeviceOk := by kernel_rfl
-- impl.tryMove
def sg79 : Sig := ⟨79,79,[.val i0 (tS 3 tI),.val i0 tI,.val i0 tI],[.val i0 (tS 3 tI) i0]⟩
def an79 : Ann := ⟨35,[],[],[(0,(tP tI (tS 3 tI)),[(1,(sW (aR 0 [i1,i0]))),(2,(sW (aR 0 [i1,i1]))),(7,(.c (.h 0))),(12,(.c (.h 0))),(13,(sW (aV 2))),(14,(sW (aR 3 [i0])))],[(.list 3 tI (aR 3 [i1]) i0 none)])],[],[]⟩
def st79 : Stm := sB (.call 78 [(aR 0 [i0])]) <| sB (.len (aV 1)) <| sL (tP tI (tS 3 tI)) [(aI 0),(aV 1)] <| sB (.cmp .lt i6 (aR 3 [i0]) (aV 2)) <| sI (aV 4) (sB (.idx (aR 3 [i1]) (aR 3 [i0])) <| sB (.get (aR 3 [i1]) (aR 3 [i0])) <| sB (.cmp .eq i6 (aV 6) (aR 0 [i1,i1])) <| sI (aV 7) (sB (.idx (aR 3 [i1]) (aR 0 [i1,i0])) <| sB (.get (aR 3 [i1]) (aR 0 [i1,i0])) <| sB (.idx (aR 3 [i1]) (aR 3 [i0])) <| sB (.get (aR 3 [i1]) (aR 3 [i0])) <| sB (.mk tI [(aV 9)]) <| sB (.set (aR 3 [i1]) (aR 3 [i0]) (aV 12)) <| sB (.bin .add i6 (aR 3 [i0]) (aI 1)) <| sN (tP tI (tS 3 tI)) [(aV 14),(aV 13)]) <| sB (.bin .add i6 (aR 3 [i0]) (aI 1)) <| sN (tP tI (tS 3 tI)) [(aV 8),(aR 3 [i1])]) <| sU <| sB (.idx (aR 3 [i1]) (aR 0 [i1,i0])) <| sB (.get (aR 3 [i1]) (aR 0 [i1,i0])) <| sB (.mk tI [(aR 0 [i1,i1])]) <| sB (.set (aR 3 [i1]) (aR 0 [i1,i0]) (aV 7)) <| sR (tS 3 tI) [(aV 8)]
noncomputable def fn79 (x : sg79.p.den) : Option sg79.r.den := st79.den [⟨sg78.key, sg78.p, sg78.r, fn78⟩] [] sg79.r [⟨sg79.p, x⟩]
theorem spec79 : CallSpec Try.prog sg79 fn79 := spec (ss := [sg78]) (an := an79) (stm := st79) follows (Specs.cons spec78 (Specs.nil) (by kernel_rfl)) (by kernel_rfl) (by kernel_rfl) (fun _ => rfl)
theorem eq79 : fn79 = Pf.impl_tryMove := by kernel_rfl
-- spec.TileKind
def sg62 : Sig := ⟨62,62,[.val i1 (tP tI (tP tI (tP tI tI))),.val i0 tI],[.val i0 tI i1]⟩
def an62 : Ann := ⟨55,[],[],[],[],[]⟩
def st62 : Stm := sB (.call 61 [(aR 0 [i0,i0]),(aR 0 [i0,i1,i0]),(aR 0 [i0,i1,i1,i0]),(aR 0 [i0,i1,i1,i1])]) <| sB (.not (aV 1)) <| sI (aV 2) (sR tI [(aI (-1))]) <| sB (.cmp .lt i6 (aR 0 [i1]) (aI 0)) <| sI (aV 3) (sR tI [(aI (-1))]) <| sB (.bin .mul i6 (aR 0 [i0,i0]) (aR 0 [i0,i1,i0])) <| sB (.cmp .ge i6 (aR 0 [i1]) (aV 4)) <| sI (aV 5) (sR tI [(aI (-1))]) <| sB (.rem i6 (aR 0 [i1]) (aR 0 [i0,i0])) <| sB (.div i6 (aR 0 [i1]) (aR 0 [i0,i0])) <| sB (.cmp .eq i6 (aV 6) (aI 0)) <| sI (aV 8) (sR tI [(aI 0)]) <| sB (.cmp .eq i6 (aV 7) (aI 0)) <| sI (aV 9) (sR tI [(aI 0)]) <| sB (.bin .sub i6 (aR 0 [i0,i0]) (aI 1)) <| sB (.cmp .eq i6 (aV 6) (aV 10)) <| sI (aV 11) (sR tI [(aI 0)]) <| sB (.bin .sub i6 (aR 0 [i0,i1,i0]) (aI 1)) <| sB (.cmp .eq i6 (aV 7) (aV 12)) <| sI (aV 13) (sR tI [(aI 0)]) <| sB (.cmp .eq i6 (aV 6) (aR 0 [i0,i1,i1,i1])) <| sI (aV 14) (sR tI [(aI 2)]) <| sR tI [(aI 1)]
noncomputable def fn62 (x : sg62.p.den) : Option sg62.r.den := st62.den [⟨sg61.key, sg61.p, sg61.r, fn61⟩] [] sg62.r [⟨sg62.p, x⟩]
theorem spec62 : CallSpec Try.prog sg62 fn62 := spec (ss := [sg61]) (an := an62) (stm := st62) follows (Specs.cons spec61 (Specs.nil) (by kernel_rfl)) (by kernel_rfl) (by kernel_rfl) (fun _ => rfl)
theorem eq62 : fn62 = Pf.spec_TileKind := by kernel_rfl
-- impl.tileOk
def sg76 : Sig := ⟨76,76,[.val i1 (tP tI (tP tI (tP tI tI))),.val i0 tI],[.val i0 tB i1]⟩
def an76 : Ann := ⟨17,[],[],[],[],[]⟩
def st76 : Stm := sB (.call 64 [(aR 0 [i0,i0]),(aR 0 [i0,i1,i0]),(aR 0 [i0,i1,i1,i0]),(aR 0 [i0,i1,i1,i1])]) <| sI (aV 1) (sB (.bin .mul i6 (aR 0 [i0,i0]) (aR 0 [i0,i1,i0])) <| sB (.bin .sub i6 (aV 2) (aI 1)) <| sB (.call 60 [(aR 0 [i1]),(aI 0),(aV 3)]) <| sR tB [(aV 4)]) <| sR tB [(.bool false)]
noncomputable def fn76 (x : sg76.p.den) : Option sg76.r.den := st76.den [⟨sg64.key, sg64.p, sg64.r, fn64⟩, ⟨sg60.key, sg60.p, sg60.r, fn60⟩] [] sg76.r [⟨sg76.p, x⟩]
theorem spec76 : CallSpec Try.prog sg76 fn76 := spec (ss := [sg64, sg60]) (an := an76) (stm := st76) follows (Specs.cons spec64 (Specs.cons spec60 (Specs.nil) (by kernel_rfl)) (by kernel_rfl)) (by kernel_rfl) (by kernel_rfl) (fun _ => rfl)
theorem eq76 : fn76 = Pf.impl_tileOk := by kernel_rfl
-- spec.PlaceOk
def sg23 : Sig := ⟨23,23,[.val i1 (tP tI (tP tI (tP tI tI))),.val i0 (tS 3 tI),.val i0 (tS 3 tI)],[.val i0 tB i1]⟩
def an23 : Ann := ⟨69,[(7,[0,1,2,3,4,5,6])],[],[(0,(tP tI (tS 4 tB)),[(1,(.c (.s none (aR 0 [i1,i0])))),(2,(.c (.s none (aR 0 [i1,i1])))),(3,(.c (.h 0))),(7,(.c (.h 1))),(8,(sW (aR 10 [i0])))],[(.box 37 [(sV (aR 0 [i0,i0])),(sV (aR 0 [i0,i1,i0])),(sV (aR 0 [i0,i1,i1,i0])),(sV (aR 0 [i0,i1,i1,i1]))]),(.list 4 tB (aR 10 [i1]) i0 none)])],[],[]⟩
def st23 : Stm := sB (.call 61 [(aR 0 [i0,i0]),(aR 0 [i0,i1,i0]),(aR 0 [i0,i1,i1,i0]),(aR 0 [i0,i1,i1,i1])]) <| sB (.not (aV 1)) <| sI (aV 2) (sR tB [(.bool false)]) <| sB (.len (aR 0 [i1,i0])) <| sB (.cmp .gt i6 (aV 3) (aI 64)) <| sI (aV 4) (sR tB [(.bool false)]) <| sB (.len (aR 0 [i1,i1])) <| sB (.len (aR 0 [i1,i0])) <| sB (.cmp .ne i6 (aV 5) (aV 6)) <| sI (aV 7) (sR tB [(.bool false)]) <| sB (.bin .mul i6 (aR 0 [i0,i0]) (aR 0 [i0,i1,i0])) <| sB (.make 1 4 tB (aV 8)) <| sL (tP tI (tS 4 tB)) [(aI 0),(aV 9)] <| sB (.len (aR 0 [i1,i0])) <| sB (.cmp .lt i6 (aR 10 [i0]) (aV 11)) <| sI (aV 12) (sB (.get (aR 0 [i1,i1]) (aR 10 [i0])) <| sB (.call 62 [(aR 0 [i0,i0]),(aR 0 [i0,i1,i0]),(aR 0 [i0,i1,i1,i0]),(aR 0 [i0,i1,i1,i1]),(aV 13)]) <| sB (.cmp .lt i6 (aV 14) (aI 0)) <| sI (aV 15) (sU <| sR tB [(.bool false)]) <| sB (.get (aR 0 [i1,i0]) (aR 10 [i0])) <| sB (.call 63 [(aV 16)]) <| sB (.cmp .ne i6 (aV 14) (aV 17)) <| sI (aV 18) (sU <| sR tB [(.bool false)]) <| sB (.get (aR 0 [i1,i1]) (aR 10 [i0])) <| sB (.idx (aR 10 [i1]) (aV 19)) <| sB (.get (aR 10 [i1]) (aV 19)) <| sI (aV 21) (sU <| sR tB [(.bool false)]) <| sB (.get (aR 0 [i1,i1]) (aR 10 [i0])) <| sB (.idx (aR 10 [i1]) (aV 22)) <| sB (.get (aR 10 [i1]) (aV 22)) <| sB (.mk tB [(.bool true)]) <| sB (.set (aR 10 [i1]) (aV 22) (aV 25)) <| sB (.bin .add i6 (aR 10 [i0]) (aI 1)) <| sN (tP tI (tS 4 tB)) [(aV 27),(aV 26)]) <| sU <| sR tB [(.bool true)]
noncomputable def fn23 (x : sg23.p.den) : Option sg23.r.den := st23.den [⟨sg61.key, sg61.p, sg61.r, fn61⟩, ⟨sg62.key, sg62.p, sg62.r, fn62⟩, ⟨sg63.key, sg63.p, sg63.r, fn63⟩] [] sg23.r [⟨sg23.p, x⟩]
theorem spec23 : CallSpec Try.prog sg23 fn23 := spec (ss := [sg61, sg62, sg63]) (an := an23) (stm := st23) follows (Specs.cons spec61 (Specs.cons spec62 (Specs.cons spec63 (Specs.nil) (by kernel_rfl)) (by kernel_rfl)) (by kernel_rfl)) (by kernel_rfl) (by kernel_rfl) (fun _ => rfl)
theorem eq23 : fn23 = Pf.spec_PlaceOk := by kernel_rfl
-- impl.TileKind
def sg45 : Sig := ⟨45,45,[.val i1 (tP tI (tP tI (tP tI tI))),.val i0 tI],[.val i0 tI i1]⟩
def an45 : Ann := ⟨12,[],[],[],[],[]⟩
def st45 : Stm := sB (.call 76 [(aR 0 [i0,i0]),(aR 0 [i0,i1,i0]),(aR 0 [i0,i1,i1,i0]),(aR 0 [i0,i1,i1,i1]),(aR 0 [i1])]) <| sB (.not (aV 1)) <| sI (aV 2) (sR tI [(aI (-1))]) <| sB (.call 85 [(aR 0 [i0,i0]),(aR 0 [i0,i1,i0]),(aR 0 [i0,i1,i1,i0]),(aR 0 [i0,i1,i1,i1]),(aR 0 [i1])]) <| sR tI [(aV 3)]
noncomputable def fn45 (x : sg45.p.den) : Option sg45.r.den := st45.den [⟨sg76.key, sg76.p, sg76.r, fn76⟩, ⟨sg85.key, sg85.p, sg85.r, fn85⟩] [] sg45.r [⟨sg45.p, x⟩]
theorem spec45 : CallSpec Try.prog sg45 fn45 := spec (ss := [sg76, sg85]) (an := an45) (stm := st45) follows (Specs.cons spec76 (Specs.cons spec85 (Specs.nil) (by kernel_rfl)) (by kernel_rfl)) (by kernel_rfl) (by kernel_rfl) (fun _ => rfl)
theorem eq45 : fn45 = Pf.impl_TileKind := by kernel_rfl
-- impl.PlaceOk
def sg26 : Sig := ⟨26,26,[.val i1 (tP tI (tP tI (tP tI tI))),.val i0 (tS 3 tI),.val i0 (tS 3 tI)],[.val i0 tB i1]⟩
def an26 : Ann := ⟨54,[],[],[(0,tI,[(1,(.c (.s none (aR 0 [i1,i0])))),(2,(.c (.s none (aR 0 [i1,i1])))),(3,(.c (.h 0))),(25,(.c (.s none (aR 0 [i1,i1])))),(26,(sW (aV 8))),(27,(sW (aV 9)))],[(.box 37 [(sV (aR 0 [i0,i0])),(sV (aR 0 [i0,i1,i0])),(sV (aR 0 [i0,i1,i1,i0])),(sV (aR 0 [i0,i1,i1,i1]))])])],[],[]⟩
def st26 : Stm := sB (.call 64 [(aR 0 [i0,i0]),(aR 0 [i0,i1,i0]),(aR 0 [i0,i1,i1,i0]),(aR 0 [i0,i1,i1,i1])]) <| sB (.not (aV 1)) <| sI (aV 2) (sR tB [(.bool false)]) <| sB (.len (aR 0 [i1,i0])) <| sB (.cmp .gt i6 (aV 3) (aI 64)) <| sI (aV 4) (sR tB [(.bool false)]) <| sB (.len (aR 0 [i1,i1])) <| sB (.len (aR 0 [i1,i0])) <| sB (.cmp .ne i6 (aV 5) (aV 6)) <| sI (aV 7) (sR tB [(.bool false)]) <| sB (.len (aR 0 [i1,i1])) <| sL tI [(aI 0)] <| sB (.cmp .lt i6 (aV 9) (aV 8)) <| sI (aV 10) (sB (.get (aR 0 [i1,i1]) (aV 9)) <| sB (.get (aR 0 [i1,i0]) (aV 9)) <| sB (.call 65 [(aV 12)]) <| sB (.cmp .lt i6 (aV 13) (aI 0)) <| sI (aV 14) (sU <| sR tB [(.bool false)]) <| sB (.call 45 [(aR 0 [i0,i0]),(aR 0 [i0,i1,i0]),(aR 0 [i0,i1,i1,i0]),(aR 0 [i0,i1,i1,i1]),(aV 11)]) <| sB (.cmp .ne i6 (aV 15) (aV 13)) <| sI (aV 16) (sU <| sR tB [(.bool false)]) <| sB (.slice (aR 0 [i1,i1]) none (some (aV 9))) <| sB (.call 66 [(aV 17),(aV 11)]) <| sI (aV 18) (sU <| sR tB [(.bool false)]) <| sB (.bin .add i6 (aV 9) (aI 1)) <| sN tI [(aV 19)]) <| sU <| sR tB [(.bool true)]
noncomputable def fn26 (x : sg26.p.den) : Option sg26.r.den := st26.den [⟨sg64.key, sg64.p, sg64.r, fn64⟩, ⟨sg65.key, sg65.p, sg65.r, fn65⟩, ⟨sg45.key, sg45.p, sg45.r, fn45⟩, ⟨sg66.key, sg66.p, sg66.r, fn66⟩] [] sg26.r [⟨sg26.p, x⟩]
theorem spec26 : CallSpec Try.prog sg26 fn26 := spec (ss := [sg64, sg65, sg45, sg66]) (an := an26) (stm := st26) follows (Specs.cons spec64 (Specs.cons spec65 (Specs.cons spec45 (Specs.cons spec66 (Specs.nil) (by kernel_rfl)) (by kernel_rfl)) (by kernel_rfl)) (by kernel_rfl)) (by kernel_rfl) (by kernel_rfl) (fun _ => rfl)
theorem eq26 : fn26 = Pf.impl_PlaceOk := by kernel_rfl
-- spec.TryMove
def sg39 : Sig := ⟨39,39,[.val i1 (tP tI (tP tI (tP tI tI))),.val i0 (tS 3 tI),.val i0 (tS 3 tI),.val i0 tI,.val i0 tI],[.val i0 (tS 3 tI) i0,.val i0 tB i0]⟩
def an39 : Ann := ⟨73,[],[],[(0,(tP tI (tS 3 tI)),[(2,(.c (.s none (aR 0 [i1,i1,i0])))),(3,(sW (aR 0 [i1,i1,i1,i0]))),(4,(sW (aR 0 [i1,i1,i1,i1]))),(12,(.c (.h 1))),(14,(sW (aR 12 [i0])))],[.dead,(.list 3 tI (aR 12 [i1]) i0 none)])],[],[]⟩
def st39 : Stm := sB (.app 8 (.nil (tS 3 tI)) (aR 0 [i1,i1,i0])) <| sB (.call 23 [(aR 0 [i0,i0]),(aR 0 [i0,i1,i0]),(aR 0 [i0,i1,i1,i0]),(aR 0 [i0,i1,i1,i1]),(aR 0 [i1,i0]),(aR 0 [i1,i1,i0])]) <| sB (.not (aV 2)) <| sI (aV 3) (sR (tP (tS 3 tI) tB) [(aV 1),(.bool false)]) <| sB (.cmp .lt i6 (aR 0 [i1,i1,i1,i0]) (aI 0)) <| sI (aV 4) (sR (tP (tS 3 tI) tB) [(aV 1),(.bool false)]) <| sB (.len (aR 0 [i1,i1,i0])) <| sB (.cmp .ge i6 (aR 0 [i1,i1,i1,i0]) (aV 5)) <| sI (aV 6) (sR (tP (tS 3 tI) tB) [(aV 1),(.bool false)]) <| sB (.call 62 [(aR 0 [i0,i0]),(aR 0 [i0,i1,i0]),(aR 0 [i0,i1,i1,i0]),(aR 0 [i0,i1,i1,i1]),(aR 0 [i1,i1,i1,i1])]) <| sB (.cmp .lt i6 (aV 7) (aI 0)) <| sI (aV 8) (sR (tP (tS 3 tI) tB) [(aV 1),(.bool false)]) <| sB (.get (aR 0 [i1,i0]) (aR 0 [i1,i1,i1,i0])) <| sB (.call 63 [(aV 9)]) <| sB (.cmp .ne i6 (aV 7) (aV 10)) <| sI (aV 11) (sR (tP (tS 3 tI) tB) [(aV 1),(.bool false)]) <| sL (tP tI (tS 3 tI)) [(aI 0),(aV 1)] <| sB (.len (aR 12 [i1])) <| sB (.cmp .lt i6 (aR 12 [i0]) (aV 13)) <| sI (aV 14) (sB (.idx (aR 12 [i1]) (aR 12 [i0])) <| sB (.get (aR 12 [i1]) (aR 12 [i0])) <| sB (.cmp .eq i6 (aV 16) (aR 0 [i1,i1,i1,i1])) <| sI (aV 17) (sB (.get (aR 0 [i1,i1,i0]) (aR 0 [i1,i1,i1,i0])) <| sB (.idx (aR 12 [i1]) (aR 12 [i0])) <| sB (.get (aR 12 [i1]) (aR 12 [i0])) <| sB (.mk tI [(aV 18)]) <| sB (.set (aR 12 [i1]) (aR 12 [i0]) (aV 21)) <| sB (.bin .add i6 (aR 12 [i0]) (aI 1)) <| sN (tP tI (tS 3 tI)) [(aV 23),(aV 22)]) <| sB (.bin .add i6 (aR 12 [i0]) (aI 1)) <| sN (tP tI (tS 3 tI)) [(aV 18),(aR 12 [i1])]) <| sU <| sB (.idx (aR 12 [i1]) (aR 0 [i1,i1,i1,i0])) <| sB (.get (aR 12 [i1]) (aR 0 [i1,i1,i1,i0])) <| sB (.mk tI [(aR 0 [i1,i1,i1,i1])]) <| sB (.set (aR 12 [i1]) (aR 0 [i1,i1,i1,i0]) (aV 17)) <| sR (tP (tS 3 tI) tB) [(aV 18),(.bool true)]
noncomputable def fn39 (x : sg39.p.den) : Option sg39.r.den := st39.den [⟨sg23.key, sg23.p, sg23.r, fn23⟩, ⟨sg62.key, sg62.p, sg62.r, fn62⟩, ⟨sg63.key, sg63.p, sg63.r, fn63⟩] [] sg39.r [⟨sg39.p, x⟩]
theorem spec39 : CallSpec Try.prog sg39 fn39 := spec (ss := [sg23, sg62, sg63]) (an := an39) (stm := st39) follows (Specs.cons spec23 (Specs.cons spec62 (Specs.cons spec63 (Specs.nil) (by kernel_rfl)) (by kernel_rfl)) (by kernel_rfl)) (by kernel_rfl) (by kernel_rfl) (fun _ => rfl)
theorem eq39 : fn39 = Pf.spec_TryMove := by kernel_rfl
-- impl.TryMove
def sg40 : Sig := ⟨40,40,[.val i1 (tP tI (tP tI (tP tI tI))),.val i0 (tS 3 tI),.val i0 (tS 3 tI),.val i0 tI,.val i0 tI],[.val i0 (tS 3 tI) i0,.val i0 tB i0]⟩
def an40 : Ann := ⟨42,[(1,[0,1,2,3,4,5,6,7,8,9,10,11,12,13,14,15,17,18,19,20,16,21,22,23])],[],[],[],[]⟩
def st40 : Stm := sB (.call 26 [(aR 0 [i0,i0]),(aR 0 [i0,i1,i0]),(aR 0 [i0,i1,i1,i0]),(aR 0 [i0,i1,i1,i1]),(aR 0 [i1,i0]),(aR 0 [i1,i1,i0])]) <| sB (.not (aV 1)) <| sI (aV 2) (sB (.call 78 [(aR 0 [i1,i1,i0])]) <| sR (tP (tS 3 tI) tB) [(aV 3),(.bool false)]) <| sB (.len (aR 0 [i1,i0])) <| sB (.bin .sub i6 (aV 3) (aI 1)) <| sB (.call 60 [(aR 0 [i1,i1,i1,i0]),(aI 0),(aV 4)]) <| sB (.not (aV 5)) <| sI (aV 6) (sB (.call 78 [(aR 0 [i1,i1,i0])]) <| sR (tP (tS 3 tI) tB) [(aV 7),(.bool false)]) <| sB (.get (aR 0 [i1,i0]) (aR 0 [i1,i1,i1,i0])) <| sB (.call 45 [(aR 0 [i0,i0]),(aR 0 [i0,i1,i0]),(aR 0 [i0,i1,i1,i0]),(aR 0 [i0,i1,i1,i1]),(aR 0 [i1,i1,i1,i1])]) <| sB (.call 65 [(aV 7)]) <| sB (.cmp .ne i6 (aV 8) (aV 9)) <| sI (aV 10) (sB (.call 78 [(aR 0 [i1,i1,i0])]) <| sR (tP (tS 3 tI) tB) [(aV 11),(.bool false)]) <| sB (.call 79 [(aR 0 [i1,i1,i0]),(aR 0 [i1,i1,i1,i0]),(aR 0 [i1,i1,i1,i1])]) <| sR (tP (tS 3 tI) tB) [(aV 11),(.bool true)]
noncomputable def fn40 (x : sg40.p.den) : Option sg40.r.den := st40.den [⟨sg26.key, sg26.p, sg26.r, fn26⟩, ⟨sg78.key, sg78.p, sg78.r, fn78⟩, ⟨sg60.key, sg60.p, sg60.r, fn60⟩, ⟨sg45.key, sg45.p, sg45.r, fn45⟩, ⟨sg65.key, sg65.p, sg65.r, fn65⟩, ⟨sg79.key, sg79.p, sg79.r, fn79⟩] [] sg40.r [⟨sg40.p, x⟩]
theorem spec40 : CallSpec Try.prog sg40 fn40 := spec (ss := [sg26, sg78, sg60, sg45, sg65, sg79]) (an := an40) (stm := st40) follows (Specs.cons spec26 (Specs.cons spec78 (Specs.cons spec60 (Specs.cons spec45 (Specs.cons spec65 (Specs.cons spec79 (Specs.nil) (by kernel_rfl)) (by kernel_rfl)) (by kernel_rfl)) (by kernel_rfl)) (by kernel_rfl)) (by kernel_rfl)) (by kernel_rfl) (by kernel_rfl) (fun _ => rfl)
theorem eq40 : fn40 = Pf.impl_TryMove := by kernel_rfl
-- laws.FnExactTryMove
def sg8 : Sig := ⟨8,8,[.val i1 (tP tI (tP tI (tP tI tI))),.val i0 (tS 3 tI),.val i0 (tS 3 tI),.val i0 tI,.val i0 tI],[.val i0 tB i1]⟩
def an8 : Ann := ⟨132,[],[],[],[],[]⟩
def st8 : Stm := sB (.len (aR 0 [i1,i0])) <| sB (.cmp .gt i6 (aV 1) (aI 1048576)) <| sI (aV 2) (sR tB [(.bool true)]) <| sB (.len (aR 0 [i1,i1,i0])) <| sB (.cmp .gt i6 (aV 3) (aI 1048576)) <| sI (aV 4) (sR tB [(.bool true)]) <| sB (.call 24 [(aR 0 [i0,i0]),(aR 0 [i0,i1,i0]),(aR 0 [i0,i1,i1,i0]),(aR 0 [i0,i1,i1,i1])]) <| sB (.call 25 [(aR 0 [i1,i0])]) <| sB (.call 25 [(aR 0 [i1,i1,i0])]) <| sB (.call 39 [(aR 5 [i0]),(aR 5 [i1,i0]),(aR 5 [i1,i1,i0]),(aR 5 [i1,i1,i1]),(aV 6),(aV 7),(aR 0 [i1,i1,i1,i0]),(aR 0 [i1,i1,i1,i1])]) <| sB (.call 25 [(aR 0 [i1,i0])]) <| sB (.call 25 [(aR 0 [i1,i1,i0])]) <| sB (.call 24 [(aR 0 [i0,i0]),(aR 0 [i0,i1,i0]),(aR 0 [i0,i1,i1,i0]),(aR 0 [i0,i1,i1,i1])]) <| sB (.call 40 [(aR 11 [i0]),(aR 11 [i1,i0]),(aR 11 [i1,i1,i0]),(aR 11 [i1,i1,i1]),(aV 9),(aV 10),(aR 0 [i1,i1,i1,i0]),(aR 0 [i1,i1,i1,i1])]) <| sB (.call 18 [(aR 12 [i0]),(aR 8 [i0])]) <| sB (.not (aV 13)) <| sI (aV 14) (sR tB [(.bool false)]) <| sB (.beq i1 (aR 12 [i1]) (aR 8 [i1])) <| sI (aV 15) (sR tB [(.bool false)]) <| sB (.call 25 [(aR 0 [i1,i0])]) <| sB (.call 18 [(aV 9),(aV 16)]) <| sB (.not (aV 17)) <| sI (aV 18) (sR tB [(.bool false)]) <| sB (.call 25 [(aR 0 [i1,i1,i0])]) <| sB (.call 18 [(aV 10),(aV 19)]) <| sB (.not (aV 20)) <| sI (aV 21) (sR tB [(.bool false)]) <| sB (.call 21 [(aV 9),(aI 1)]) <| sB (.call 21 [(aV 10),(aR 22 [i0])]) <| sB (.cmp .lt i6 (aR 23 [i0]) (aI 0)) <| sI (aV 24) (sR tB [(.bool false)]) <| sB (.call 18 [(aR 12 [i0]),(aR 8 [i0])]) <| sB (.not (aV 25)) <| sI (aV 26) (sR tB [(.bool false)]) <| sB (.beq i1 (aR 12 [i1]) (aR 8 [i1])) <| sI (aV 27) (sR tB [(.bool false)]) <| sB (.call 21 [(aR 12 [i0]),(aI 1)]) <| sB (.call 22 [(aR 28 [i1]),(aI 1)]) <| sB (.cmp .lt i6 (aV 29) (aI 0)) <| sI (aV 30) (sR tB [(.bool false)]) <| sB (.cmp .ne i6 (aV 29) (aR 28 [i0])) <| sI (aV 31) (sR tB [(.bool false)]) <| sB (.call 24 [(aR 0 [i0,i0]),(aR 0 [i0,i1,i0]),(aR 0 [i0,i1,i1,i0]),(aR 0 [i0,i1,i1,i1])]) <| sB (.call 25 [(aR 0 [i1,i0])]) <| sB (.call 25 [(aR 0 [i1,i1,i0])]) <| sB (.call 40 [(aR 32 [i0]),(aR 32 [i1,i0]),(aR 32 [i1,i1,i0]),(aR 32 [i1,i1,i1]),(aV 33),(aV 34),(aR 0 [i1,i1,i1,i0]),(aR 0 [i1,i1,i1,i1])]) <| sB (.call 18 [(aR 35 [i0]),(aR 8 [i0])]) <| sB (.not (aV 36)) <| sI (aV 37) (sR tB [(.bool false)]) <| sB (.beq i1 (aR 35 [i1]) (aR 8 [i1])) <| sI (aV 38) (sR tB [(.bool false)]) <| sB (.call 22 [(aR 28 [i1]),(aI 1)]) <| sB (.cmp .lt i6 (aV 39) (aI 0)) <| sI (aV 40) (sR tB [(.bool false)]) <| sB (.cmp .ne i6 (aV 39) (aR 28 [i0])) <| sI (aV 41) (sR tB [(.bool false)]) <| sR tB [(.bool true)]
noncomputable def fn8 (x : sg8.p.den) : Option sg8.r.den := st8.den [⟨sg24.key, sg24.p, sg24.r, fn24⟩, ⟨sg25.key, sg25.p, sg25.r, fn25⟩, ⟨sg39.key, sg39.p, sg39.r, fn39⟩, ⟨sg40.key, sg40.p, sg40.r, fn40⟩, ⟨sg18.key, sg18.p, sg18.r, fn18⟩, ⟨sg21.key, sg21.p, sg21.r, fn21⟩, ⟨sg22.key, sg22.p, sg22.r, fn22⟩] [] sg8.r [⟨sg8.p, x⟩]
theorem spec8 : CallSpec Try.prog sg8 fn8 := spec (ss := [sg24, sg25, sg39, sg40, sg18, sg21, sg22]) (an := an8) (stm := st8) follows (Specs.cons spec24 (Specs.cons spec25 (Specs.cons spec39 (Specs.cons spec40 (Specs.cons spec18 (Specs.cons spec21 (Specs.cons spec22 (Specs.nil) (by kernel_rfl)) (by kernel_rfl)) (by kernel_rfl)) (by kernel_rfl)) (by kernel_rfl)) (by kernel_rfl)) (by kernel_rfl)) (by kernel_rfl) (by kernel_rfl) (fun _ => rfl)
theorem eq8 : fn8 = Pf.laws_FnExactTryMove := by kernel_rfl
end Go.Proofs.Ytamaghlnjchhbaa
