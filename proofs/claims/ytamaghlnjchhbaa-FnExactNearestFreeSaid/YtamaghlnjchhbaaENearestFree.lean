/-
  Own work, printed by my tool: signatures, annotations and the compiled statements of the functions that the law reaches; each one's contract.
-/
import Derived.Test.YtamaghlnjchhbaaD
import Derived.Test.YtamaghlnjchhbaaProg
namespace Go.Proofs.Ytamaghlnjchhbaa
open Go Go.Pu Go.Proofs
theorem follows : Try.prog.follows .mixedOrders = true := by kernel_rfl
-- laws.eqIntS
def sg18 : Sig := ⟨18,18,[.val i0 (tS 3 tI),.val i0 (tS 3 tI)],[.val i0 tB i1]⟩
def an18 : Ann := ⟨26,[(6,[0,1,2,3,4,5,6,7,8])],[],[(0,tI,[(0,(.c (.s none (aR 0 [i0])))),(1,(.c (.s none (aR 0 [i1])))),(5,(sW (aV 4)))],[])],[],[]⟩
def st18 : Stm := sB (.len (aR 0 [i0])) <| sB (.len (aR 0 [i1])) <| sB (.cmp .ne i6 (aV 1) (aV 2)) <| sI (aV 3) (sR tB [(.bool false)]) <| sL tI [(aI 0)] <| sB (.len (aR 0 [i0])) <| sB (.cmp .lt i6 (aV 4) (aV 5)) <| sI (aV 6) (sB (.get (aR 0 [i0]) (aV 4)) <| sB (.get (aR 0 [i1]) (aV 4)) <| sB (.cmp .ne i6 (aV 7) (aV 8)) <| sI (aV 9) (sU <| sR tB [(.bool false)]) <| sB (.bin .add i6 (aV 4) (aI 1)) <| sN tI [(aV 10)]) <| sU <| sR tB [(.bool true)]
noncomputable def fn18 (x : sg18.p.den) : Option sg18.r.den := st18.den [] [] sg18.r [⟨sg18.p, x⟩]
theorem spec18 : CallSpec Try.prog sg18 fn18 := spec (ss := []) (an := an18) (stm := st18) follows (Specs.nil) (by kernel_rfl) (by kernel_rfl) (fun _ => rfl)
theorem eq18 : fn18 = Pf.laws_eqIntS := by kernel_rfl
-- laws.toDevice
def sg24 : Sig := ⟨24,24,[.val i1 (tP tI (tP tI (tP tI tI)))],[.val i1 (tP tI (tP tI (tP tI tI))) i1]⟩
def an24 : Ann := ⟨17,[],[],[],[],[]⟩
def st24 : Stm := sR (tP tI (tP tI (tP tI tI))) [(aR 0 [i0]),(aR 0 [i1,i0]),(aR 0 [i1,i1,i0]),(aR 0 [i1,i1,i1])]
noncomputable def fn24 (x : sg24.p.den) : Option sg24.r.den := st24.den [] [] sg24.r [⟨sg24.p, x⟩]
theorem spec24 : CallSpec Try.prog sg24 fn24 := spec (ss := []) (an := an24) (stm := st24) follows (Specs.nil) (by kernel_rfl) (by kernel_rfl) (fun _ => rfl)
theorem eq24 : fn24 = Pf.laws_toDevice := by kernel_rfl
-- laws.toIntS
def sg25 : Sig := ⟨25,25,[.val i0 (tS 3 tI)],[.val i0 (tS 3 tI) i0]⟩
def an25 : Ann := ⟨22,[],[],[(0,(tP tI (tS 3 tI)),[(0,(.c (.s none (aV 0)))),(3,(.c (.h 0))),(4,(sW (aR 3 [i0])))],[(.list 3 tI (aR 3 [i1]) i0 none)])],[],[]⟩
def st25 : Stm := sB (.len (aV 0)) <| sB (.make 8 3 tI (aV 1)) <| sL (tP tI (tS 3 tI)) [(aI 0),(aV 2)] <| sB (.len (aV 0)) <| sB (.cmp .lt i6 (aR 3 [i0]) (aV 4)) <| sI (aV 5) (sB (.get (aV 0) (aR 3 [i0])) <| sB (.idx (aR 3 [i1]) (aR 3 [i0])) <| sB (.get (aR 3 [i1]) (aR 3 [i0])) <| sB (.mk tI [(aV 6)]) <| sB (.set (aR 3 [i1]) (aR 3 [i0]) (aV 9)) <| sB (.bin .add i6 (aR 3 [i0]) (aI 1)) <| sN (tP tI (tS 3 tI)) [(aV 11),(aV 10)]) <| sU <| sR (tS 3 tI) [(aR 3 [i1])]
noncomputable def fn25 (x : sg25.p.den) : Option sg25.r.den := st25.den [] [] sg25.r [⟨sg25.p, x⟩]
theorem spec25 : CallSpec Try.prog sg25 fn25 := spec (ss := []) (an := an25) (stm := st25) follows (Specs.nil) (by kernel_rfl) (by kernel_rfl) (fun _ => rfl)
theorem eq25 : fn25 = Pf.laws_toIntS := by kernel_rfl
-- impl.inRange
def sg60 : Sig := ⟨60,60,[.val i0 tI,.val i0 tI,.val i0 tI],[.val i0 tB i1]⟩
def an60 : Ann := ⟨15,[],[],[],[],[]⟩
def st60 : Stm := sB (.cmp .ge i6 (aR 0 [i0]) (aR 0 [i1,i0])) <| sI (aV 1) (sB (.cmp .le i6 (aR 0 [i0]) (aR 0 [i1,i1])) <| sR tB [(aV 2)]) <| sR tB [(.bool false)]
noncomputable def fn60 (x : sg60.p.den) : Option sg60.r.den := st60.den [] [] sg60.r [⟨sg60.p, x⟩]
theorem spec60 : CallSpec Try.prog sg60 fn60 := spec (ss := []) (an := an60) (stm := st60) follows (Specs.nil) (by kernel_rfl) (by kernel_rfl) (fun _ => rfl)
theorem eq60 : fn60 = Pf.impl_inRange := by kernel_rfl
-- impl.hasInt
def sg66 : Sig := ⟨66,66,[.val i0 (tS 3 tI),.val i0 tI],[.val i0 tB i1]⟩
def an66 : Ann := ⟨17,[],[],[(0,tI,[(1,(sW (aR 0 [i1]))),(7,(.c (.s none (aR 0 [i0])))),(8,(sW (aV 1))),(9,(sW (aV 2)))],[])],[],[]⟩
def st66 : Stm := sB (.len (aR 0 [i0])) <| sL tI [(aI 0)] <| sB (.cmp .lt i6 (aV 2) (aV 1)) <| sI (aV 3) (sB (.get (aR 0 [i0]) (aV 2)) <| sB (.cmp .eq i6 (aV 4) (aR 0 [i1])) <| sI (aV 5) (sU <| sR tB [(.bool true)]) <| sB (.bin .add i6 (aV 2) (aI 1)) <| sN tI [(aV 6)]) <| sU <| sR tB [(.bool false)]
noncomputable def fn66 (x : sg66.p.den) : Option sg66.r.den := st66.den [] [] sg66.r [⟨sg66.p, x⟩]
theorem spec66 : CallSpec Try.prog sg66 fn66 := spec (ss := []) (an := an66) (stm := st66) follows (Specs.nil) (by kernel_rfl) (by kernel_rfl) (fun _ => rfl)
theorem eq66 : fn66 = Pf.impl_hasInt := by kernel_rfl
-- spec.l01In
def sg67 : Sig := ⟨67,67,[.val i0 tI,.val i0 tI,.val i0 tI],[.val i0 tB i1]⟩
def an67 : Ann := ⟨15,[],[],[],[],[]⟩
def st67 : Stm := sB (.cmp .ge i6 (aR 0 [i0]) (aR 0 [i1,i0])) <| sI (aV 1) (sB (.cmp .le i6 (aR 0 [i0]) (aR 0 [i1,i1])) <| sR tB [(aV 2)]) <| sR tB [(.bool false)]
noncomputable def fn67 (x : sg67.p.den) : Option sg67.r.den := st67.den [] [] sg67.r [⟨sg67.p, x⟩]
theorem spec67 : CallSpec Try.prog sg67 fn67 := spec (ss := []) (an := an67) (stm := st67) follows (Specs.nil) (by kernel_rfl) (by kernel_rfl) (fun _ => rfl)
theorem eq67 : fn67 = Pf.spec_l01In := by kernel_rfl
-- spec.l13Has
def sg68 : Sig := ⟨68,68,[.val i0 (tS 3 tI),.val i0 tI],[.val i0 tB i1]⟩
def an68 : Ann := ⟨18,[],[],[(0,tI,[(0,(.c (.s none (aR 0 [i0])))),(1,(sW (aR 0 [i1]))),(5,(sW (aV 1)))],[])],[],[]⟩
def st68 : Stm := sL tI [(aI 0)] <| sB (.len (aR 0 [i0])) <| sB (.cmp .lt i6 (aV 1) (aV 2)) <| sI (aV 3) (sB (.get (aR 0 [i0]) (aV 1)) <| sB (.cmp .eq i6 (aV 4) (aR 0 [i1])) <| sI (aV 5) (sU <| sR tB [(.bool true)]) <| sB (.bin .add i6 (aV 1) (aI 1)) <| sN tI [(aV 6)]) <| sU <| sR tB [(.bool false)]
noncomputable def fn68 (x : sg68.p.den) : Option sg68.r.den := st68.den [] [] sg68.r [⟨sg68.p, x⟩]
theorem spec68 : CallSpec Try.prog sg68 fn68 := spec (ss := []) (an := an68) (stm := st68) follows (Specs.nil) (by kernel_rfl) (by kernel_rfl) (fun _ => rfl)
theorem eq68 : fn68 = Pf.spec_l13Has := by kernel_rfl
-- impl.tileKind
def sg85 : Sig := ⟨85,85,[.val i1 (tP tI (tP tI (tP tI tI))),.val i0 tI],[.val i0 tI i1]⟩
def an85 : Ann := ⟨41,[(1,[0,1,2,3,4,5,6,7,8,9])],[],[],[],[]⟩
def st85 : Stm := sB (.rem i6 (aR 0 [i1]) (aR 0 [i0,i0])) <| sB (.div i6 (aR 0 [i1]) (aR 0 [i0,i0])) <| sB (.cmp .eq i6 (aV 1) (aI 0)) <| sI (aV 3) (sR tI [(aI 0)]) <| sB (.bin .sub i6 (aR 0 [i0,i0]) (aI 1)) <| sB (.cmp .eq i6 (aV 1) (aV 4)) <| sI (aV 5) (sR tI [(aI 0)]) <| sB (.cmp .eq i6 (aV 2) (aI 0)) <| sI (aV 6) (sR tI [(aI 0)]) <| sB (.bin .sub i6 (aR 0 [i0,i1,i0]) (aI 1)) <| sB (.cmp .eq i6 (aV 2) (aV 7)) <| sI (aV 8) (sR tI [(aI 0)]) <| sB (.cmp .eq i6 (aV 1) (aR 0 [i0,i1,i1,i1])) <| sI (aV 9) (sR tI [(aI 2)]) <| sR tI [(aI 1)]
noncomputable def fn85 (x : sg85.p.den) : Option sg85.r.den := st85.den [] [] sg85.r [⟨sg85.p, x⟩]
theorem spec85 : CallSpec Try.prog sg85 fn85 := spec (ss := []) (an := an85) (stm := st85) follows (Specs.nil) (by kernel_rfl) (by kernel_rfl) (fun _ => rfl)
theorem eq85 : fn85 = Pf.impl_tileKind := by kernel_rfl
-- spec.DeviceOk
def sg61 : Sig := ⟨61,61,[.val i1 (tP tI (tP tI (tP tI tI)))],[.val i0 tB i1]⟩
def an61 : Ann := ⟨29,[],[],[],[],[]⟩
def st61 : Stm := sB (.call 67 [(aR 0 [i0]),(aI 3),(aI 6)]) <| sI (aV 1) (sB (.call 67 [(aR 0 [i1,i0]),(aI 3),(aI 6)]) <| sI (aV 2) (sB (.call 67 [(aR 0 [i1,i1,i0]),(aI 1),(aI 4)]) <| sI (aV 3) (sB (.cmp .eq i6 (aR 0 [i1,i1,i1]) (aI (-1))) <| sI (aV 4) (sR tB [(.bool true)]) <| sB (.bin .sub i6 (aR 0 [i0]) (aI 2)) <| sB (.call 67 [(aR 0 [i1,i1,i1]),(aI 1),(aV 5)]) <| sR tB [(aV 6)]) <| sR tB [(.bool false)]) <| sR tB [(.bool false)]) <| sR tB [(.bool false)]
noncomputable def fn61 (x : sg61.p.den) : Option sg61.r.den := st61.den [⟨sg67.key, sg67.p, sg67.r, fn67⟩] [] sg61.r [⟨sg61.p, x⟩]
theorem spec61 : CallSpec Try.prog sg61 fn61 := spec (ss := [sg67]) (an := an61) (stm := st61) follows (Specs.cons spec67 (Specs.nil) (by kernel_rfl)) (by kernel_rfl) (by kernel_rfl) (fun _ => rfl)
theorem eq61 : fn61 = Pf.spec_DeviceOk := by kernel_rfl
-- impl.DeviceOk
def sg64 : Sig := ⟨64,64,[.val i1 (tP tI (tP tI (tP tI tI)))],[.val i0 tB i1]⟩
def an64 : Ann := ⟨29,[],[],[],[],[]⟩
def st64 : Stm := sB (.call 60 [(aR 0 [i0]),(aI 3),(aI 6)]) <| sI (aV 1) (sB (.call 60 [(aR 0 [i1,i0]),(aI 3),(aI 6)]) <| sI (aV 2) (sB (.call 60 [(aR 0 [i1,i1,i0]),(aI 1),(aI 4)]) <| sI (aV 3) (sB (.cmp .eq i6 (aR 0 [i1,i1,i1]) (aI (-1))) <| sI (aV 4) (sR tB [(.bool true)]) <| sB (.bin .sub i6 (aR 0 [i0]) (aI 2)) <| sB (.call 60 [(aR 0 [i1,i1,i1]),(aI 1),(aV 5)]) <| sR tB [(aV 6)]) <| sR tB [(.bool false)]) <| sR tB [(.bool false)]) <| sR tB [(.bool false)]
noncomputable def fn64 (x : sg64.p.den) : Option sg64.r.den := st64.den [⟨sg60.key, sg60.p, sg60.r, fn60⟩] [] sg64.r [⟨sg64.p, x⟩]
theorem spec64 : CallSpec Try.prog sg64 fn64 := spec (ss := [sg60]) (an := an64) (stm := st64) follows (Specs.cons spec60 (Specs.nil) (by kernel_rfl)) (by kernel_rfl) (by kernel_rfl) (fun _ => rfl)
theorem eq64 : fn64 = Pf.impl_DeviceOk := by kernel_rfl
-- spec.TileKind
def sg62 : Sig := ⟨62,62,[.val i1 (tP tI (tP tI (tP tI tI))),.val i0 tI],[.val i0 tI i1]⟩
def an62 : Ann := ⟨55,[],[],[],[],[]⟩
def st62 : Stm := sB (.call 61 [(aR 0 [i0,i0]),(aR 0 [i0,i1,i0]),(aR 0 [i0,i1,i1,i0]),(aR 0 [i0,i1,i1,i1])]) <| sB (.not (aV 1)) <| sI (aV 2) (sR tI [(aI (-1))]) <| sB (.cmp .lt i6 (aR 0 [i1]) (aI 0)) <| sI (aV 3) (sR tI [(aI (-1))]) <| sB (.bin .mul i6 (aR 0 [i0,i0]) (aR 0 [i0,i1,i0])) <| sB (.cmp .ge i6 (aR 0 [i1]) (aV 4)) <| sI (aV 5) (sR tI [(aI (-1))]) <| sB (.rem i6 (aR 0 [i1]) (aR 0 [i0,i0])) <| sB (.div i6 (aR 0 [i1]) (aR 0 [i0,i0])) <| sB (.cmp .eq i6 (aV 6) (aI 0)) <| sI (aV 8) (sR tI [(aI 0)]) <| sB (.cmp .eq i6 (aV 7) (aI 0)) <| sI (aV 9) (sR tI [(aI 0)]) <| sB (.bin .sub i6 (aR 0 [i0,i0]) (aI 1)) <| sB (.cmp .eq i6 (aV 6) (aV 10)) <| sI (aV 11) (sR tI [(aI 0)]) <| sB (.bin .sub i6 (aR 0 [i0,i1,i0]) (aI 1)) <| sB (.cmp .eq i6 (aV 7) (aV 12)) <| sI (aV 13) (sR tI [(aI 0)]) <| sB (.cmp .eq i6 (aV 6) (aR 0 [i0,i1,i1,i1])) <| sI (aV 14) (sR tI [(aI 2)]) <| sR tI [(aI 1)]
noncomputable def fn62 (x : sg62.p.den) : Option sg62.r.den := st62.den [⟨sg61.key, sg61.p, sg61.r, fn61⟩] [] sg62.r [⟨sg62.p, x⟩]
theorem spec62 : CallSpec Try.prog sg62 fn62 := spec (ss := [sg61]) (an := an62) (stm := st62) follows (Specs.cons spec61 (Specs.nil) (by kernel_rfl)) (by kernel_rfl) (by kernel_rfl) (fun _ => rfl)
theorem eq62 : fn62 = Pf.spec_TileKind := by kernel_rfl
-- impl.TilesOf
def sg69 : Sig := ⟨69,69,[.val i1 (tP tI (tP tI (tP tI tI))),.val i0 tI],[.val i0 (tS 3 tI) i1]⟩
def an69 : Ann := ⟨29,[],[],[(0,(tP (tS 3 tI) tI),[(1,(sW (aR 0 [i1]))),(2,(.c (.h 0))),(5,(.c (.h 1))),(6,(sW (aR 3 [i1])))],[(.box 37 [(sV (aR 0 [i0,i0])),(sV (aR 0 [i0,i1,i0])),(sV (aR 0 [i0,i1,i1,i0])),(sV (aR 0 [i0,i1,i1,i1]))]),(.list 3 tI (aR 3 [i0]) i1 none)])],[],[]⟩
def st69 : Stm := sB (.call 64 [(aR 0 [i0,i0]),(aR 0 [i0,i1,i0]),(aR 0 [i0,i1,i1,i0]),(aR 0 [i0,i1,i1,i1])]) <| sB (.not (aV 1)) <| sI (aV 2) (sR (tS 3 tI) [(.nil (tS 3 tI))]) <| sL (tP (tS 3 tI) tI) [(.nil (tS 3 tI)),(aI 0)] <| sB (.bin .mul i6 (aR 0 [i0,i0]) (aR 0 [i0,i1,i0])) <| sB (.cmp .lt i6 (aR 3 [i1]) (aV 4)) <| sI (aV 5) (sB (.call 85 [(aR 0 [i0,i0]),(aR 0 [i0,i1,i0]),(aR 0 [i0,i1,i1,i0]),(aR 0 [i0,i1,i1,i1]),(aR 3 [i1])]) <| sB (.cmp .eq i6 (aV 6) (aR 0 [i1])) <| sI (aV 7) (sB (.lst 3 tI [[(aR 3 [i1])]]) <| sB (.app 8 (aR 3 [i0]) (aV 8)) <| sB (.bin .add i6 (aR 3 [i1]) (aI 1)) <| sN (tP (tS 3 tI) tI) [(aV 9),(aV 10)]) <| sB (.bin .add i6 (aR 3 [i1]) (aI 1)) <| sN (tP (tS 3 tI) tI) [(aR 3 [i0]),(aV 8)]) <| sU <| sR (tS 3 tI) [(aR 3 [i0])]
noncomputable def fn69 (x : sg69.p.den) : Option sg69.r.den := st69.den [⟨sg64.key, sg64.p, sg64.r, fn64⟩, ⟨sg85.key, sg85.p, sg85.r, fn85⟩] [] sg69.r [⟨sg69.p, x⟩]
theorem spec69 : CallSpec Try.prog sg69 fn69 := spec (ss := [sg64, sg85]) (an := an69) (stm := st69) follows (Specs.cons spec64 (Specs.cons spec85 (Specs.nil) (by kernel_rfl)) (by kernel_rfl)) (by kernel_rfl) (by kernel_rfl) (fun _ => rfl)
theorem eq69 : fn69 = Pf.impl_TilesOf := by kernel_rfl
-- impl.NearestFree
def sg28 : Sig := ⟨28,28,[.val i1 (tP tI (tP tI (tP tI tI))),.val i0 tI,.val i0 tI,.val i0 tI,.val i0 (tS 3 tI)],[.val i0 tI i1]⟩
def an28 : Ann := ⟨74,[(8,[0,1,2,3,4,5,6,7,8,9,10,11,12,13,14,15])],[],[(0,(tP tI (tP tI tI)),[(2,(sW (aR 0 [i1,i1,i0]))),(3,(sW (aR 0 [i1,i1,i1,i0]))),(4,(.c (.s none (aR 0 [i1,i1,i1,i1])))),(5,(.c (.h 0))),(11,(sW (aR 9 [i1,i0]))),(12,(sW (aR 9 [i1,i1]))),(33,(.c (.h 1))),(34,(sW (aV 8))),(35,(sW (aR 9 [i0])))],[(.box 37 [(sV (aR 0 [i0,i0])),(sV (aR 0 [i0,i1,i0])),(sV (aR 0 [i0,i1,i1,i0])),(sV (aR 0 [i0,i1,i1,i1]))]),(.list 3 tI (aV 7) i1 none)])],[],[]⟩
def st28 : Stm := sB (.call 64 [(aR 0 [i0,i0]),(aR 0 [i0,i1,i0]),(aR 0 [i0,i1,i1,i0]),(aR 0 [i0,i1,i1,i1])]) <| sB (.not (aV 1)) <| sI (aV 2) (sR tI [(aI (-1))]) <| sB (.call 60 [(aR 0 [i1,i1,i0]),(aI 0),(aI 600)]) <| sB (.not (aV 3)) <| sI (aV 4) (sR tI [(aI (-1))]) <| sB (.call 60 [(aR 0 [i1,i1,i1,i0]),(aI 0),(aI 600)]) <| sB (.not (aV 5)) <| sI (aV 6) (sR tI [(aI (-1))]) <| sB (.call 69 [(aR 0 [i0,i0]),(aR 0 [i0,i1,i0]),(aR 0 [i0,i1,i1,i0]),(aR 0 [i0,i1,i1,i1]),(aR 0 [i1,i0])]) <| sB (.len (aV 7)) <| sL (tP tI (tP tI tI)) [(aI 0),(aI (-1)),(aI 0)] <| sB (.cmp .lt i6 (aR 9 [i0]) (aV 8)) <| sI (aV 10) (sB (.idx (aV 7) (aR 9 [i0])) <| sB (.get (aV 7) (aR 9 [i0])) <| sB (.call 66 [(aR 0 [i1,i1,i1,i1]),(aV 12)]) <| sI (aV 13) (sB (.bin .add i6 (aR 9 [i0]) (aI 1)) <| sN (tP tI (tP tI tI)) [(aV 14),(aR 9 [i1,i0]),(aR 9 [i1,i1])]) <| sB (.rem i6 (aV 12) (aR 0 [i0,i0])) <| sB (.bin .mul i6 (aI 100) (aV 14)) <| sB (.bin .sub i6 (aV 15) (aR 0 [i1,i1,i0])) <| sB (.div i6 (aV 12) (aR 0 [i0,i0])) <| sB (.bin .mul i6 (aI 100) (aV 17)) <| sB (.bin .sub i6 (aV 18) (aR 0 [i1,i1,i1,i0])) <| sB (.bin .mul i6 (aV 16) (aV 16)) <| sB (.bin .mul i6 (aV 19) (aV 19)) <| sB (.bin .add i6 (aV 20) (aV 21)) <| sB (.cmp .lt i6 (aR 9 [i1,i0]) (aI 0)) <| sI (aV 23) (sB (.bin .add i6 (aR 9 [i0]) (aI 1)) <| sN (tP tI (tP tI tI)) [(aV 24),(aV 12),(aV 22)]) <| sB (.cmp .lt i6 (aV 22) (aR 9 [i1,i1])) <| sI (aV 24) (sB (.bin .add i6 (aR 9 [i0]) (aI 1)) <| sN (tP tI (tP tI tI)) [(aV 25),(aV 12),(aV 22)]) <| sB (.bin .add i6 (aR 9 [i0]) (aI 1)) <| sN (tP tI (tP tI tI)) [(aV 25),(aR 9 [i1,i0]),(aR 9 [i1,i1])]) <| sU <| sR tI [(aR 9 [i1,i0])]
noncomputable def fn28 (x : sg28.p.den) : Option sg28.r.den := st28.den [⟨sg64.key, sg64.p, sg64.r, fn64⟩, ⟨sg60.key, sg60.p, sg60.r, fn60⟩, ⟨sg69.key, sg69.p, sg69.r, fn69⟩, ⟨sg66.key, sg66.p, sg66.r, fn66⟩] [] sg28.r [⟨sg28.p, x⟩]
theorem spec28 : CallSpec Try.prog sg28 fn28 := spec (ss := [sg64, sg60, sg69, sg66]) (an := an28) (stm := st28) follows (Specs.cons spec64 (Specs.cons spec60 (Specs.cons spec69 (Specs.cons spec66 (Specs.nil) (by kernel_rfl)) (by kernel_rfl)) (by kernel_rfl)) (by kernel_rfl)) (by kernel_rfl) (by kernel_rfl) (fun _ => rfl)
theorem eq28 : fn28 = Pf.impl_NearestFree := by kernel_rfl
-- spec.TilesOf
def sg46 : Sig := ⟨46,46,[.val i1 (tP tI (tP tI (tP tI tI))),.val i0 tI],[.val i0 (tS 3 tI) i0]⟩
def an46 : Ann := ⟨31,[],[],[(0,(tP tI (tS 3 tI)),[(1,(sW (aR 0 [i1]))),(2,(.c (.h 0))),(5,(.c (.h 1))),(6,(sW (aR 3 [i0])))],[(.box 37 [(sV (aR 0 [i0,i0])),(sV (aR 0 [i0,i1,i0])),(sV (aR 0 [i0,i1,i1,i0])),(sV (aR 0 [i0,i1,i1,i1]))]),(.list 3 tI (aR 3 [i1]) i0 none)])],[],[]⟩
def st46 : Stm := sB (.call 61 [(aR 0 [i0,i0]),(aR 0 [i0,i1,i0]),(aR 0 [i0,i1,i1,i0]),(aR 0 [i0,i1,i1,i1])]) <| sB (.not (aV 1)) <| sI (aV 2) (sR (tS 3 tI) [(.nil (tS 3 tI))]) <| sL (tP tI (tS 3 tI)) [(aI 0),(.nil (tS 3 tI))] <| sB (.bin .mul i6 (aR 0 [i0,i0]) (aR 0 [i0,i1,i0])) <| sB (.cmp .lt i6 (aR 3 [i0]) (aV 4)) <| sI (aV 5) (sB (.call 62 [(aR 0 [i0,i0]),(aR 0 [i0,i1,i0]),(aR 0 [i0,i1,i1,i0]),(aR 0 [i0,i1,i1,i1]),(aR 3 [i0])]) <| sB (.cmp .eq i6 (aV 6) (aR 0 [i1])) <| sI (aV 7) (sB (.lst 3 tI [[(aR 3 [i0])]]) <| sB (.app 8 (aR 3 [i1]) (aV 8)) <| sB (.bin .add i6 (aR 3 [i0]) (aI 1)) <| sN (tP tI (tS 3 tI)) [(aV 10),(aV 9)]) <| sB (.bin .add i6 (aR 3 [i0]) (aI 1)) <| sN (tP tI (tS 3 tI)) [(aV 8),(aR 3 [i1])]) <| sU <| sR (tS 3 tI) [(aR 3 [i1])]
noncomputable def fn46 (x : sg46.p.den) : Option sg46.r.den := st46.den [⟨sg61.key, sg61.p, sg61.r, fn61⟩, ⟨sg62.key, sg62.p, sg62.r, fn62⟩] [] sg46.r [⟨sg46.p, x⟩]
theorem spec46 : CallSpec Try.prog sg46 fn46 := spec (ss := [sg61, sg62]) (an := an46) (stm := st46) follows (Specs.cons spec61 (Specs.cons spec62 (Specs.nil) (by kernel_rfl)) (by kernel_rfl)) (by kernel_rfl) (by kernel_rfl) (fun _ => rfl)
theorem eq46 : fn46 = Pf.spec_TilesOf := by kernel_rfl
-- spec.NearestFree
def sg27 : Sig := ⟨27,27,[.val i1 (tP tI (tP tI (tP tI tI))),.val i0 tI,.val i0 tI,.val i0 tI,.val i0 (tS 3 tI)],[.val i0 tI i1]⟩
def an27 : Ann := ⟨84,[(9,[0,1,2,3,4,5,6,7,8,9,10]),(10,[0,1,2,3,4,5,6,7,8,9,10])],[],[(0,(tP tI (tP tI tI)),[(2,(sW (aR 0 [i1,i1,i0]))),(3,(sW (aR 0 [i1,i1,i1,i0]))),(4,(.c (.s none (aR 0 [i1,i1,i1,i1])))),(5,(.c (.h 0))),(11,(.c (.h 1))),(12,(sW (aR 6 [i0]))),(13,(sW (aR 6 [i1,i0]))),(14,(sW (aR 6 [i1,i1])))],[(.box 37 [(sV (aR 0 [i0,i0])),(sV (aR 0 [i0,i1,i0])),(sV (aR 0 [i0,i1,i1,i0])),(sV (aR 0 [i0,i1,i1,i1]))]),(.list 3 tI (aV 5) i0 none)])],[],[]⟩
def st27 : Stm := sB (.call 67 [(aR 0 [i1,i1,i0]),(aI 0),(aI 600)]) <| sB (.not (aV 1)) <| sI (aV 2) (sR tI [(aI (-1))]) <| sB (.call 67 [(aR 0 [i1,i1,i1,i0]),(aI 0),(aI 600)]) <| sB (.not (aV 3)) <| sI (aV 4) (sR tI [(aI (-1))]) <| sB (.call 46 [(aR 0 [i0,i0]),(aR 0 [i0,i1,i0]),(aR 0 [i0,i1,i1,i0]),(aR 0 [i0,i1,i1,i1]),(aR 0 [i1,i0])]) <| sL (tP tI (tP tI tI)) [(aI (-1)),(aI 0),(aI 0)] <| sB (.len (aV 5)) <| sB (.cmp .lt i6 (aR 6 [i1,i1]) (aV 7)) <| sI (aV 8) (sB (.idx (aV 5) (aR 6 [i1,i1])) <| sB (.get (aV 5) (aR 6 [i1,i1])) <| sB (.rem i6 (aV 10) (aR 0 [i0,i0])) <| sB (.bin .mul i6 (aI 100) (aV 11)) <| sB (.bin .sub i6 (aV 12) (aR 0 [i1,i1,i0])) <| sB (.idx (aV 5) (aR 6 [i1,i1])) <| sB (.get (aV 5) (aR 6 [i1,i1])) <| sB (.div i6 (aV 15) (aR 0 [i0,i0])) <| sB (.bin .mul i6 (aI 100) (aV 16)) <| sB (.bin .sub i6 (aV 17) (aR 0 [i1,i1,i1,i0])) <| sB (.bin .mul i6 (aV 13) (aV 13)) <| sB (.bin .mul i6 (aV 18) (aV 18)) <| sB (.bin .add i6 (aV 19) (aV 20)) <| sB (.idx (aV 5) (aR 6 [i1,i1])) <| sB (.get (aV 5) (aR 6 [i1,i1])) <| sB (.call 68 [(aR 0 [i1,i1,i1,i1]),(aV 23)]) <| sB (.not (aV 24)) <| sI (aV 25) (sB (.cmp .lt i6 (aR 6 [i0]) (aI 0)) <| sI (aV 26) (sB (.idx (aV 5) (aR 6 [i1,i1])) <| sB (.get (aV 5) (aR 6 [i1,i1])) <| sB (.bin .add i6 (aR 6 [i1,i1]) (aI 1)) <| sN (tP tI (tP tI tI)) [(aV 28),(aV 21),(aV 29)]) <| sB (.cmp .lt i6 (aV 21) (aR 6 [i1,i0])) <| sI (aV 27) (sB (.idx (aV 5) (aR 6 [i1,i1])) <| sB (.get (aV 5) (aR 6 [i1,i1])) <| sB (.bin .add i6 (aR 6 [i1,i1]) (aI 1)) <| sN (tP tI (tP tI tI)) [(aV 29),(aV 21),(aV 30)]) <| sB (.bin .add i6 (aR 6 [i1,i1]) (aI 1)) <| sN (tP tI (tP tI tI)) [(aR 6 [i0]),(aR 6 [i1,i0]),(aV 28)]) <| sB (.bin .add i6 (aR 6 [i1,i1]) (aI 1)) <| sN (tP tI (tP tI tI)) [(aR 6 [i0]),(aR 6 [i1,i0]),(aV 26)]) <| sU <| sR tI [(aR 6 [i0])]
noncomputable def fn27 (x : sg27.p.den) : Option sg27.r.den := st27.den [⟨sg67.key, sg67.p, sg67.r, fn67⟩, ⟨sg46.key, sg46.p, sg46.r, fn46⟩, ⟨sg68.key, sg68.p, sg68.r, fn68⟩] [] sg27.r [⟨sg27.p, x⟩]
theorem spec27 : CallSpec Try.prog sg27 fn27 := spec (ss := [sg67, sg46, sg68]) (an := an27) (stm := st27) follows (Specs.cons spec67 (Specs.cons spec46 (Specs.cons spec68 (Specs.nil) (by kernel_rfl)) (by kernel_rfl)) (by kernel_rfl)) (by kernel_rfl) (by kernel_rfl) (fun _ => rfl)
theorem eq27 : fn27 = Pf.spec_NearestFree := by kernel_rfl
-- laws.FnExactNearestFree
def sg5 : Sig := ⟨5,5,[.val i1 (tP tI (tP tI (tP tI tI))),.val i0 tI,.val i0 tI,.val i0 tI,.val i0 (tS 3 tI)],[.val i0 tB i1]⟩
def an5 : Ann := ⟨42,[],[],[],[],[]⟩
def st5 : Stm := sB (.len (aR 0 [i1,i1,i1,i1])) <| sB (.cmp .gt i6 (aV 1) (aI 1048576)) <| sI (aV 2) (sR tB [(.bool true)]) <| sB (.call 24 [(aR 0 [i0,i0]),(aR 0 [i0,i1,i0]),(aR 0 [i0,i1,i1,i0]),(aR 0 [i0,i1,i1,i1])]) <| sB (.call 25 [(aR 0 [i1,i1,i1,i1])]) <| sB (.call 27 [(aR 3 [i0]),(aR 3 [i1,i0]),(aR 3 [i1,i1,i0]),(aR 3 [i1,i1,i1]),(aR 0 [i1,i0]),(aR 0 [i1,i1,i0]),(aR 0 [i1,i1,i1,i0]),(aV 4)]) <| sB (.call 25 [(aR 0 [i1,i1,i1,i1])]) <| sB (.call 24 [(aR 0 [i0,i0]),(aR 0 [i0,i1,i0]),(aR 0 [i0,i1,i1,i0]),(aR 0 [i0,i1,i1,i1])]) <| sB (.call 28 [(aR 7 [i0]),(aR 7 [i1,i0]),(aR 7 [i1,i1,i0]),(aR 7 [i1,i1,i1]),(aR 0 [i1,i0]),(aR 0 [i1,i1,i0]),(aR 0 [i1,i1,i1,i0]),(aV 6)]) <| sB (.cmp .ne i6 (aV 8) (aV 5)) <| sI (aV 9) (sR tB [(.bool false)]) <| sB (.call 25 [(aR 0 [i1,i1,i1,i1])]) <| sB (.call 18 [(aV 6),(aV 10)]) <| sB (.not (aV 11)) <| sI (aV 12) (sR tB [(.bool false)]) <| sR tB [(.bool true)]
noncomputable def fn5 (x : sg5.p.den) : Option sg5.r.den := st5.den [⟨sg24.key, sg24.p, sg24.r, fn24⟩, ⟨sg25.key, sg25.p, sg25.r, fn25⟩, ⟨sg27.key, sg27.p, sg27.r, fn27⟩, ⟨sg28.key, sg28.p, sg28.r, fn28⟩, ⟨sg18.key, sg18.p, sg18.r, fn18⟩] [] sg5.r [⟨sg5.p, x⟩]
theorem spec5 : CallSpec Try.prog sg5 fn5 := spec (ss := [sg24, sg25, sg27, sg28, sg18]) (an := an5) (stm := st5) follows (Specs.cons spec24 (Specs.cons spec25 (Specs.cons spec27 (Specs.cons spec28 (Specs.cons spec18 (Specs.nil) (by kernel_rfl)) (by kernel_rfl)) (by kernel_rfl)) (by kernel_rfl)) (by kernel_rfl)) (by kernel_rfl) (by kernel_rfl) (fun _ => rfl)
theorem eq5 : fn5 = Pf.laws_FnExactNearestFree := by kernel_rfl
end Go.Proofs.Ytamaghlnjchhbaa
