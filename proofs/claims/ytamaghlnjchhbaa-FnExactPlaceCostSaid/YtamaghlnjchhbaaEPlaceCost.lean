/-
  Own work, printed by my tool: signatures, annotations and the compiled statements of the functions that the law reaches; each one's contract.
-/
import Derived.Test.YtamaghlnjchhbaaD
import Derived.Test.YtamaghlnjchhbaaProg
namespace Go.Proofs.Ytamaghlnjchhbaa
open Go Go.Pu Go.Proofs
theorem follows : Try.prog.follows .mixedOrders = true := by kernel_rfl
-- laws.eqIntS
def sg18 : Sig := ⟨18,18,[.val i0 (tS 3 tI),.val i0 (tS 3 tI)],[.val i0 tB i1]⟩
def an18 : Ann := ⟨26,[(6,[0,1,2,3,4,5,6,7,8])],[],[(0,tI,[(0,(.c (.s none (aR 0 [i0])))),(1,(.c (.s none (aR 0 [i1])))),(5,(sW (aV 4)))],[])],[],[]⟩
def st18 : Stm := sB (.len (aR 0 [i0])) <| sB (.len (aR 0 [i1])) <| sB (.cmp .ne i6 (aV 1) (aV 2)) <| sI (aV 3) (sR tB [(.bool false)]) <| sL tI [(aI 0)] <| sB (.len (aR 0 [i0])) <| sB (.cmp .lt i6 (aV 4) (aV 5)) <| sI (aV 6) (sB (.get (aR 0 [i0]) (aV 4)) <| sB (.get (aR 0 [i1]) (aV 4)) <| sB (.cmp .ne i6 (aV 7) (aV 8)) <| sI (aV 9) (sU <| sR tB [(.bool false)]) <| sB (.bin .add i6 (aV 4) (aI 1)) <| sN tI [(aV 10)]) <| sU <| sR tB [(.bool true)]
noncomputable def fn18 (x : sg18.p.den) : Option sg18.r.den := st18.den [] [] sg18.r [⟨sg18.p, x⟩]
theorem spec18 : CallSpec Try.prog sg18 fn18 := spec (ss := []) (an := an18) (stm := st18) follows (Specs.nil) (by kernel_rfl) (by kernel_rfl) (fun _ => rfl)
theorem eq18 : fn18 = Pf.laws_eqIntS := by kernel_rfl
-- laws.toDevice
def sg24 : Sig := ⟨24,24,[.val i1 (tP tI (tP tI (tP tI tI)))],[.val i1 (tP tI (tP tI (tP tI tI))) i1]⟩
def an24 : Ann := ⟨17,[],[],[],[],[]⟩
def st24 : Stm := sR (tP tI (tP tI (tP tI tI))) [(aR 0 [i0]),(aR 0 [i1,i0]),(aR 0 [i1,i1,i0]),(aR 0 [i1,i1,i1])]
noncomputable def fn24 (x : sg24.p.den) : Option sg24.r.den := st24.den [] [] sg24.r [⟨sg24.p, x⟩]
theorem spec24 : CallSpec Try.prog sg24 fn24 := spec (ss := []) (an := an24) (stm := st24) follows (Specs.nil) (by kernel_rfl) (by kernel_rfl) (fun _ => rfl)
theorem eq24 : fn24 = Pf.laws_toDevice := by kernel_rfl
-- laws.toIntS
def sg25 : Sig := ⟨25,25,[.val i0 (tS 3 tI)],[.val i0 (tS 3 tI) i0]⟩
def an25 : Ann := ⟨22,[],[],[(0,(tP tI (tS 3 tI)),[(0,(.c (.s none (aV 0)))),(3,(.c (.h 0))),(4,(sW (aR 3 [i0])))],[(.list 3 tI (aR 3 [i1]) i0 none)])],[],[]⟩
def st25 : Stm := sB (.len (aV 0)) <| sB (.make 8 3 tI (aV 1)) <| sL (tP tI (tS 3 tI)) [(aI 0),(aV 2)] <| sB (.len (aV 0)) <| sB (.cmp .lt i6 (aR 3 [i0]) (aV 4)) <| sI (aV 5) (sB (.get (aV 0) (aR 3 [i0])) <| sB (.idx (aR 3 [i1]) (aR 3 [i0])) <| sB (.get (aR 3 [i1]) (aR 3 [i0])) <| sB (.mk tI [(aV 6)]) <| sB (.set (aR 3 [i1]) (aR 3 [i0]) (aV 9)) <| sB (.bin .add i6 (aR 3 [i0]) (aI 1)) <| sN (tP tI (tS 3 tI)) [(aV 11),(aV 10)]) <| sU <| sR (tS 3 tI) [(aR 3 [i1])]
noncomputable def fn25 (x : sg25.p.den) : Option sg25.r.den := st25.den [] [] sg25.r [⟨sg25.p, x⟩]
theorem spec25 : CallSpec Try.prog sg25 fn25 := spec (ss := []) (an := an25) (stm := st25) follows (Specs.nil) (by kernel_rfl) (by kernel_rfl) (fun _ => rfl)
theorem eq25 : fn25 = Pf.laws_toIntS := by kernel_rfl
-- impl.inRange
def sg60 : Sig := ⟨60,60,[.val i0 tI,.val i0 tI,.val i0 tI],[.val i0 tB i1]⟩
def an60 : Ann := ⟨15,[],[],[],[],[]⟩
def st60 : Stm := sB (.cmp .ge i6 (aR 0 [i0]) (aR 0 [i1,i0])) <| sI (aV 1) (sB (.cmp .le i6 (aR 0 [i0]) (aR 0 [i1,i1])) <| sR tB [(aV 2)]) <| sR tB [(.bool false)]
noncomputable def fn60 (x : sg60.p.den) : Option sg60.r.den := st60.den [] [] sg60.r [⟨sg60.p, x⟩]
theorem spec60 : CallSpec Try.prog sg60 fn60 := spec (ss := []) (an := an60) (stm := st60) follows (Specs.nil) (by kernel_rfl) (by kernel_rfl) (fun _ => rfl)
theorem eq60 : fn60 = Pf.impl_inRange := by kernel_rfl
-- spec.l01In
def sg67 : Sig := ⟨67,67,[.val i0 tI,.val i0 tI,.val i0 tI],[.val i0 tB i1]⟩
def an67 : Ann := ⟨15,[],[],[],[],[]⟩
def st67 : Stm := sB (.cmp .ge i6 (aR 0 [i0]) (aR 0 [i1,i0])) <| sI (aV 1) (sB (.cmp .le i6 (aR 0 [i0]) (aR 0 [i1,i1])) <| sR tB [(aV 2)]) <| sR tB [(.bool false)]
noncomputable def fn67 (x : sg67.p.den) : Option sg67.r.den := st67.den [] [] sg67.r [⟨sg67.p, x⟩]
theorem spec67 : CallSpec Try.prog sg67 fn67 := spec (ss := []) (an := an67) (stm := st67) follows (Specs.nil) (by kernel_rfl) (by kernel_rfl) (fun _ => rfl)
theorem eq67 : fn67 = Pf.spec_l01In := by kernel_rfl
-- laws.szPinS
def sg72 : Sig := ⟨72,72,[.val i0 (tS 51 (tP tI tI)),.val i0 tI],[.val i0 tI i1]⟩
def an72 : Ann := ⟨12,[],[],[],[],[]⟩
def st72 : Stm := sB (.len (aR 0 [i0])) <| sB (.bin .sub i6 (aR 0 [i1]) (aV 1)) <| sB (.cmp .lt i6 (aV 2) (aI 0)) <| sI (aV 3) (sR tI [(aI (-1))]) <| sR tI [(aV 2)]
noncomputable def fn72 (x : sg72.p.den) : Option sg72.r.den := st72.den [] [] sg72.r [⟨sg72.p, x⟩]
theorem spec72 : CallSpec Try.prog sg72 fn72 := spec (ss := []) (an := an72) (stm := st72) follows (Specs.nil) (by kernel_rfl) (by kernel_rfl) (fun _ => rfl)
theorem eq72 : fn72 = Pf.laws_szPinS := by kernel_rfl
-- laws.toPin
def sg73 : Sig := ⟨73,73,[.val i1 (tP tI tI)],[.val i1 (tP tI tI) i1]⟩
def an73 : Ann := ⟨11,[],[],[],[],[]⟩
def st73 : Stm := sR (tP tI tI) [(aR 0 [i0]),(aR 0 [i1])]
noncomputable def fn73 (x : sg73.p.den) : Option sg73.r.den := st73.den [] [] sg73.r [⟨sg73.p, x⟩]
theorem spec73 : CallSpec Try.prog sg73 fn73 := spec (ss := []) (an := an73) (stm := st73) follows (Specs.nil) (by kernel_rfl) (by kernel_rfl) (fun _ => rfl)
theorem eq73 : fn73 = Pf.laws_toPin := by kernel_rfl
-- impl.pinsOf
def sg75 : Sig := ⟨75,75,[.val i1 (tP tI (tP (tP tI tI) (tS 57 (tP tI tI))))],[.val i0 (tS 57 (tP tI tI)) i1]⟩
def an75 : Ann := ⟨9,[],[],[],[],[]⟩
def st75 : Stm := sB (.lst 57 (tP tI tI) [[(aR 0 [i1,i0,i0]),(aR 0 [i1,i0,i1])]]) <| sB (.app 16 (aV 1) (aR 0 [i1,i1])) <| sR (tS 57 (tP tI tI)) [(aV 2)]
noncomputable def fn75 (x : sg75.p.den) : Option sg75.r.den := st75.den [] [] sg75.r [⟨sg75.p, x⟩]
theorem spec75 : CallSpec Try.prog sg75 fn75 := spec (ss := []) (an := an75) (stm := st75) follows (Specs.nil) (by kernel_rfl) (by kernel_rfl) (fun _ => rfl)
theorem eq75 : fn75 = Pf.impl_pinsOf := by kernel_rfl
-- laws.eqPin
def sg77 : Sig := ⟨77,77,[.val i1 (tP tI tI),.val i1 (tP tI tI)],[.val i0 tB i1]⟩
def an77 : Ann := ⟨15,[],[],[],[],[]⟩
def st77 : Stm := sB (.cmp .ne i6 (aR 0 [i0,i0]) (aR 0 [i1,i0])) <| sI (aV 1) (sR tB [(.bool false)]) <| sB (.cmp .ne i6 (aR 0 [i0,i1]) (aR 0 [i1,i1])) <| sI (aV 2) (sR tB [(.bool false)]) <| sR tB [(.bool true)]
noncomputable def fn77 (x : sg77.p.den) : Option sg77.r.den := st77.den [] [] sg77.r [⟨sg77.p, x⟩]
theorem spec77 : CallSpec Try.prog sg77 fn77 := spec (ss := []) (an := an77) (stm := st77) follows (Specs.nil) (by kernel_rfl) (by kernel_rfl) (fun _ => rfl)
theorem eq77 : fn77 = Pf.laws_eqPin := by kernel_rfl
-- laws.szConn
def sg34 : Sig := ⟨34,34,[.val i1 (tP tI (tP (tP tI tI) (tS 51 (tP tI tI)))),.val i0 tI],[.val i0 tI i1]⟩
def an34 : Ann := ⟨12,[],[],[],[],[]⟩
def st34 : Stm := sB (.call 72 [(aR 0 [i0,i1,i1]),(aR 0 [i1])]) <| sB (.cmp .lt i6 (aV 1) (aI 0)) <| sI (aV 2) (sR tI [(aI (-1))]) <| sR tI [(aV 1)]
noncomputable def fn34 (x : sg34.p.den) : Option sg34.r.den := st34.den [⟨sg72.key, sg72.p, sg72.r, fn72⟩] [] sg34.r [⟨sg34.p, x⟩]
theorem spec34 : CallSpec Try.prog sg34 fn34 := spec (ss := [sg72]) (an := an34) (stm := st34) follows (Specs.cons spec72 (Specs.nil) (by kernel_rfl)) (by kernel_rfl) (by kernel_rfl) (fun _ => rfl)
theorem eq34 : fn34 = Pf.laws_szConn := by kernel_rfl
-- laws.eqPinS
def sg51 : Sig := ⟨51,51,[.val i0 (tS 57 (tP tI tI)),.val i0 (tS 57 (tP tI tI))],[.val i0 tB i1]⟩
def an51 : Ann := ⟨27,[(6,[0,1,2,3,4,5,6,7,8,9])],[],[(0,tI,[(0,(.c (.s none (aR 0 [i0])))),(1,(.c (.s none (aR 0 [i1])))),(5,(sW (aV 4)))],[])],[],[]⟩
def st51 : Stm := sB (.len (aR 0 [i0])) <| sB (.len (aR 0 [i1])) <| sB (.cmp .ne i6 (aV 1) (aV 2)) <| sI (aV 3) (sR tB [(.bool false)]) <| sL tI [(aI 0)] <| sB (.len (aR 0 [i0])) <| sB (.cmp .lt i6 (aV 4) (aV 5)) <| sI (aV 6) (sB (.get (aR 0 [i0]) (aV 4)) <| sB (.get (aR 0 [i1]) (aV 4)) <| sB (.call 77 [(aR 7 [i0]),(aR 7 [i1]),(aR 8 [i0]),(aR 8 [i1])]) <| sB (.not (aV 9)) <| sI (aV 10) (sU <| sR tB [(.bool false)]) <| sB (.bin .add i6 (aV 4) (aI 1)) <| sN tI [(aV 11)]) <| sU <| sR tB [(.bool true)]
noncomputable def fn51 (x : sg51.p.den) : Option sg51.r.den := st51.den [⟨sg77.key, sg77.p, sg77.r, fn77⟩] [] sg51.r [⟨sg51.p, x⟩]
theorem spec51 : CallSpec Try.prog sg51 fn51 := spec (ss := [sg77]) (an := an51) (stm := st51) follows (Specs.cons spec77 (Specs.nil) (by kernel_rfl)) (by kernel_rfl) (by kernel_rfl) (fun _ => rfl)
theorem eq51 : fn51 = Pf.laws_eqPinS := by kernel_rfl
-- spec.DeviceOk
def sg61 : Sig := ⟨61,61,[.val i1 (tP tI (tP tI (tP tI tI)))],[.val i0 tB i1]⟩
def an61 : Ann := ⟨29,[],[],[],[],[]⟩
def st61 : Stm := sB (.call 67 [(aR 0 [i0]),(aI 3),(aI 6)]) <| sI (aV 1) (sB (.call 67 [(aR 0 [i1,i0]),(aI 3),(aI 6)]) <| sI (aV 2) (sB (.call 67 [(aR 0 [i1,i1,i0]),(aI 1),(aI 4)]) <| sI (aV 3) (sB (.cmp .eq i6 (aR 0 [i1,i1,i1]) (aI (-1))) <| sI (aV 4) (sR tB [(.bool true)]) <| sB (.bin .sub i6 (aR 0 [i0]) (aI 2)) <| sB (.call 67 [(aR 0 [i1,i1,i1]),(aI 1),(aV 5)]) <| sR tB [(aV 6)]) <| sR tB [(.bool false)]) <| sR tB [(.bool false)]) <| sR tB [(.bool false)]
noncomputable def fn61 (x : sg61.p.den) : Option sg61.r.den := st61.den [⟨sg67.key, sg67.p, sg67.r, fn67⟩] [] sg61.r [⟨sg61.p, x⟩]
theorem spec61 : CallSpec Try.prog sg61 fn61 := spec (ss := [sg67]) (an := an61) (stm := st61) follows (Specs.cons spec67 (Specs.nil) (by kernel_rfl)) (by kernel_rfl) (by kernel_rfl) (fun _ => rfl)
theorem eq61 : fn61 = Pf.spec_DeviceOk := by kernel_rfl
-- impl.DeviceOk
def sg64 : Sig := ⟨64,64,[.val i1 (tP tI (tP tI (tP tI tI)))],[.val i0 tB i1]⟩
def an64 : Ann := ⟨29,[],[],[],[],[]⟩
def st64 : Stm := sB (.call 60 [(aR 0 [i0]),(aI 3),(aI 6)]) <| sI (aV 1) (sB (.call 60 [(aR 0 [i1,i0]),(aI 3),(aI 6)]) <| sI (aV 2) (sB (.call 60 [(aR 0 [i1,i1,i0]),(aI 1),(aI 4)]) <| sI (aV 3) (sB (.cmp .eq i6 (aR 0 [i1,i1,i1]) (aI (-1))) <| sI (aV 4) (sR tB [(.bool true)]) <| sB (.bin .sub i6 (aR 0 [i0]) (aI 2)) <| sB (.call 60 [(aR 0 [i1,i1,i1]),(aI 1),(aV 5)]) <| sR tB [(aV 6)]) <| sR tB [(.bool false)]) <| sR tB [(.bool false)]) <| sR tB [(.bool false)]
noncomputable def fn64 (x : sg64.p.den) : Option sg64.r.den := st64.den [⟨sg60.key, sg60.p, sg60.r, fn60⟩] [] sg64.r [⟨sg64.p, x⟩]
theorem spec64 : CallSpec Try.prog sg64 fn64 := spec (ss := [sg60]) (an := an64) (stm := st64) follows (Specs.cons spec60 (Specs.nil) (by kernel_rfl)) (by kernel_rfl) (by kernel_rfl) (fun _ => rfl)
theorem eq64 : fn64 = Pf.impl_DeviceOk := by kernel_rfl
-- spec.l29Pin
def sg70 : Sig := ⟨70,70,[.val i1 (tP tI tI),.val i0 tI],[.val i0 tB i1]⟩
def an70 : Ann := ⟨19,[],[],[],[],[]⟩
def st70 : Stm := sB (.cmp .ge i6 (aR 0 [i0,i0]) (aI 0)) <| sI (aV 1) (sB (.cmp .lt i6 (aR 0 [i0,i0]) (aR 0 [i1])) <| sI (aV 2) (sB (.call 67 [(aR 0 [i0,i1]),(aI 0),(aI 4)]) <| sR tB [(aV 3)]) <| sR tB [(.bool false)]) <| sR tB [(.bool false)]
noncomputable def fn70 (x : sg70.p.den) : Option sg70.r.den := st70.den [⟨sg67.key, sg67.p, sg67.r, fn67⟩] [] sg70.r [⟨sg70.p, x⟩]
theorem spec70 : CallSpec Try.prog sg70 fn70 := spec (ss := [sg67]) (an := an70) (stm := st70) follows (Specs.cons spec67 (Specs.nil) (by kernel_rfl)) (by kernel_rfl) (by kernel_rfl) (fun _ => rfl)
theorem eq70 : fn70 = Pf.spec_l29Pin := by kernel_rfl
-- impl.pinOk
def sg71 : Sig := ⟨71,71,[.val i0 tI,.val i1 (tP tI tI)],[.val i0 tB i1]⟩
def an71 : Ann := ⟨15,[],[],[],[],[]⟩
def st71 : Stm := sB (.bin .sub i6 (aR 0 [i0]) (aI 1)) <| sB (.call 60 [(aR 0 [i1,i0]),(aI 0),(aV 1)]) <| sI (aV 2) (sB (.call 60 [(aR 0 [i1,i1]),(aI 0),(aI 4)]) <| sR tB [(aV 3)]) <| sR tB [(.bool false)]
noncomputable def fn71 (x : sg71.p.den) : Option sg71.r.den := st71.den [⟨sg60.key, sg60.p, sg60.r, fn60⟩] [] sg71.r [⟨sg71.p, x⟩]
theorem spec71 : CallSpec Try.prog sg71 fn71 := spec (ss := [sg60]) (an := an71) (stm := st71) follows (Specs.cons spec60 (Specs.nil) (by kernel_rfl)) (by kernel_rfl) (by kernel_rfl) (fun _ => rfl)
theorem eq71 : fn71 = Pf.impl_pinOk := by kernel_rfl
-- laws.toPinS
def sg74 : Sig := ⟨74,74,[.val i0 (tS 51 (tP tI tI))],[.val i0 (tS 57 (tP tI tI)) i0]⟩
def an74 : Ann := ⟨23,[],[],[(0,(tP tI (tS 57 (tP tI tI))),[(0,(.c (.s none (aV 0)))),(3,(.c (.h 0))),(4,(sW (aR 3 [i0])))],[(.list 57 (tP tI tI) (aR 3 [i1]) i0 none)])],[],[]⟩
def st74 : Stm := sB (.len (aV 0)) <| sB (.make 16 57 (tP tI tI) (aV 1)) <| sL (tP tI (tS 57 (tP tI tI))) [(aI 0),(aV 2)] <| sB (.len (aV 0)) <| sB (.cmp .lt i6 (aR 3 [i0]) (aV 4)) <| sI (aV 5) (sB (.get (aV 0) (aR 3 [i0])) <| sB (.call 73 [(aR 6 [i0]),(aR 6 [i1])]) <| sB (.idx (aR 3 [i1]) (aR 3 [i0])) <| sB (.get (aR 3 [i1]) (aR 3 [i0])) <| sB (.mk (tP tI tI) [(aR 7 [i0]),(aR 7 [i1])]) <| sB (.set (aR 3 [i1]) (aR 3 [i0]) (aV 10)) <| sB (.bin .add i6 (aR 3 [i0]) (aI 1)) <| sN (tP tI (tS 57 (tP tI tI))) [(aV 12),(aV 11)]) <| sU <| sR (tS 57 (tP tI tI)) [(aR 3 [i1])]
noncomputable def fn74 (x : sg74.p.den) : Option sg74.r.den := st74.den [⟨sg73.key, sg73.p, sg73.r, fn73⟩] [] sg74.r [⟨sg74.p, x⟩]
theorem spec74 : CallSpec Try.prog sg74 fn74 := spec (ss := [sg73]) (an := an74) (stm := st74) follows (Specs.cons spec73 (Specs.nil) (by kernel_rfl)) (by kernel_rfl) (by kernel_rfl) (fun _ => rfl)
theorem eq74 : fn74 = Pf.laws_toPinS := by kernel_rfl
-- laws.szConnS
def sg29 : Sig := ⟨29,29,[.val i0 (tS 54 (tP tI (tP (tP tI tI) (tS 51 (tP tI tI))))),.val i0 tI],[.val i0 tI i1]⟩
def an29 : Ann := ⟨27,[],[],[(0,(tP tI tI),[(0,(.c (.s none (aR 0 [i0])))),(1,(sW (aR 4 [i0]))),(5,(sW (aR 4 [i1])))],[])],[],[]⟩
def st29 : Stm := sB (.len (aR 0 [i0])) <| sB (.bin .sub i6 (aR 0 [i1]) (aV 1)) <| sB (.cmp .lt i6 (aV 2) (aI 0)) <| sI (aV 3) (sR tI [(aI (-1))]) <| sL (tP tI tI) [(aV 2),(aI 0)] <| sB (.len (aR 0 [i0])) <| sB (.cmp .lt i6 (aR 4 [i1]) (aV 5)) <| sI (aV 6) (sB (.get (aR 0 [i0]) (aR 4 [i1])) <| sB (.call 34 [(aR 7 [i0]),(aR 7 [i1,i0,i0]),(aR 7 [i1,i0,i1]),(aR 7 [i1,i1]),(aR 4 [i0])]) <| sB (.cmp .lt i6 (aV 8) (aI 0)) <| sI (aV 9) (sU <| sR tI [(aI (-1))]) <| sB (.bin .add i6 (aR 4 [i1]) (aI 1)) <| sN (tP tI tI) [(aV 8),(aV 10)]) <| sU <| sR tI [(aR 4 [i0])]
noncomputable def fn29 (x : sg29.p.den) : Option sg29.r.den := st29.den [⟨sg34.key, sg34.p, sg34.r, fn34⟩] [] sg29.r [⟨sg29.p, x⟩]
theorem spec29 : CallSpec Try.prog sg29 fn29 := spec (ss := [sg34]) (an := an29) (stm := st29) follows (Specs.cons spec34 (Specs.nil) (by kernel_rfl)) (by kernel_rfl) (by kernel_rfl) (fun _ => rfl)
theorem eq29 : fn29 = Pf.laws_szConnS := by kernel_rfl
-- spec.ConnsOk
def sg30 : Sig := ⟨30,30,[.val i0 tI,.val i0 (tS 60 (tP tI (tP (tP tI tI) (tS 57 (tP tI tI)))))],[.val i0 tB i1]⟩
def an30 : Ann := ⟨60,[],[],[(2,tI,[(0,(sW (aR 0 [i0]))),(1,(.c (.s none (aR 0 [i1])))),(5,(sW (aV 5))),(6,(sW (aV 15)))],[]),(0,tI,[(0,(sW (aR 0 [i0]))),(1,(.c (.s none (aR 0 [i1])))),(5,(sW (aV 5)))],[])],[],[]⟩
def st30 : Stm := sB (.call 67 [(aR 0 [i0]),(aI 0),(aI 64)]) <| sB (.not (aV 1)) <| sI (aV 2) (sR tB [(.bool false)]) <| sB (.len (aR 0 [i1])) <| sB (.cmp .gt i6 (aV 3) (aI 100)) <| sI (aV 4) (sR tB [(.bool false)]) <| sL tI [(aI 0)] <| sB (.len (aR 0 [i1])) <| sB (.cmp .lt i6 (aV 5) (aV 6)) <| sI (aV 7) (sB (.get (aR 0 [i1]) (aV 5)) <| sB (.len (aR 8 [i1,i1])) <| sB (.call 67 [(aV 9),(aI 1),(aI 120)]) <| sB (.not (aV 10)) <| sI (aV 11) (sU <| sR tB [(.bool false)]) <| sB (.get (aR 0 [i1]) (aV 5)) <| sB (.call 70 [(aR 12 [i1,i0,i0]),(aR 12 [i1,i0,i1]),(aR 0 [i0])]) <| sB (.not (aV 13)) <| sI (aV 14) (sU <| sR tB [(.bool false)]) <| sL tI [(aI 0)] <| sB (.get (aR 0 [i1]) (aV 5)) <| sB (.len (aR 16 [i1,i1])) <| sB (.cmp .lt i6 (aV 15) (aV 17)) <| sI (aV 18) (sB (.get (aR 0 [i1]) (aV 5)) <| sB (.get (aR 19 [i1,i1]) (aV 15)) <| sB (.call 70 [(aR 20 [i0]),(aR 20 [i1]),(aR 0 [i0])]) <| sB (.not (aV 21)) <| sI (aV 22) (sU <| sU <| sR tB [(.bool false)]) <| sB (.bin .add i6 (aV 15) (aI 1)) <| sN tI [(aV 23)]) <| sU <| sB (.bin .add i6 (aV 5) (aI 1)) <| sN tI [(aV 19)]) <| sU <| sR tB [(.bool true)]
noncomputable def fn30 (x : sg30.p.den) : Option sg30.r.den := st30.den [⟨sg67.key, sg67.p, sg67.r, fn67⟩, ⟨sg70.key, sg70.p, sg70.r, fn70⟩] [] sg30.r [⟨sg30.p, x⟩]
theorem spec30 : CallSpec Try.prog sg30 fn30 := spec (ss := [sg67, sg70]) (an := an30) (stm := st30) follows (Specs.cons spec67 (Specs.cons spec70 (Specs.nil) (by kernel_rfl)) (by kernel_rfl)) (by kernel_rfl) (by kernel_rfl) (fun _ => rfl)
theorem eq30 : fn30 = Pf.spec_ConnsOk := by kernel_rfl
-- impl.ConnsOk
def sg32 : Sig := ⟨32,32,[.val i0 tI,.val i0 (tS 60 (tP tI (tP (tP tI tI) (tS 57 (tP tI tI)))))],[.val i0 tB i1]⟩
def an32 : Ann := ⟨48,[],[],[(2,tI,[(0,(sW (aR 0 [i0]))),(17,(.c (.s none (aR 0 [i1])))),(18,(sW (aV 5))),(19,(sW (aV 6))),(36,(.c (.s none (aR 8 [i1,i1])))),(37,(sW (aV 14))),(38,(sW (aV 15)))],[.dead]),(0,tI,[(0,(sW (aR 0 [i0]))),(17,(.c (.s none (aR 0 [i1])))),(18,(sW (aV 5))),(19,(sW (aV 6)))],[])],[],[]⟩
def st32 : Stm := sB (.call 60 [(aR 0 [i0]),(aI 0),(aI 64)]) <| sB (.not (aV 1)) <| sI (aV 2) (sR tB [(.bool false)]) <| sB (.len (aR 0 [i1])) <| sB (.cmp .gt i6 (aV 3) (aI 100)) <| sI (aV 4) (sR tB [(.bool false)]) <| sB (.len (aR 0 [i1])) <| sL tI [(aI 0)] <| sB (.cmp .lt i6 (aV 6) (aV 5)) <| sI (aV 7) (sB (.get (aR 0 [i1]) (aV 6)) <| sB (.len (aR 8 [i1,i1])) <| sB (.call 60 [(aV 9),(aI 1),(aI 120)]) <| sB (.not (aV 10)) <| sI (aV 11) (sU <| sR tB [(.bool false)]) <| sB (.call 71 [(aR 0 [i0]),(aR 8 [i1,i0,i0]),(aR 8 [i1,i0,i1])]) <| sB (.not (aV 12)) <| sI (aV 13) (sU <| sR tB [(.bool false)]) <| sB (.len (aR 8 [i1,i1])) <| sL tI [(aI 0)] <| sB (.cmp .lt i6 (aV 15) (aV 14)) <| sI (aV 16) (sB (.get (aR 8 [i1,i1]) (aV 15)) <| sB (.call 71 [(aR 0 [i0]),(aR 17 [i0]),(aR 17 [i1])]) <| sB (.not (aV 18)) <| sI (aV 19) (sU <| sU <| sR tB [(.bool false)]) <| sB (.bin .add i6 (aV 15) (aI 1)) <| sN tI [(aV 20)]) <| sU <| sB (.bin .add i6 (aV 6) (aI 1)) <| sN tI [(aV 17)]) <| sU <| sR tB [(.bool true)]
noncomputable def fn32 (x : sg32.p.den) : Option sg32.r.den := st32.den [⟨sg60.key, sg60.p, sg60.r, fn60⟩, ⟨sg71.key, sg71.p, sg71.r, fn71⟩] [] sg32.r [⟨sg32.p, x⟩]
theorem spec32 : CallSpec Try.prog sg32 fn32 := spec (ss := [sg60, sg71]) (an := an32) (stm := st32) follows (Specs.cons spec60 (Specs.cons spec71 (Specs.nil) (by kernel_rfl)) (by kernel_rfl)) (by kernel_rfl) (by kernel_rfl) (fun _ => rfl)
theorem eq32 : fn32 = Pf.impl_ConnsOk := by kernel_rfl
-- laws.toConn
def sg36 : Sig := ⟨36,36,[.val i1 (tP tI (tP (tP tI tI) (tS 51 (tP tI tI))))],[.val i1 (tP tI (tP (tP tI tI) (tS 57 (tP tI tI)))) i0]⟩
def an36 : Ann := ⟨16,[],[],[],[],[]⟩
def st36 : Stm := sB (.call 73 [(aR 0 [i1,i0,i0]),(aR 0 [i1,i0,i1])]) <| sB (.call 74 [(aR 0 [i1,i1])]) <| sR (tP tI (tP (tP tI tI) (tS 57 (tP tI tI)))) [(aR 0 [i0]),(aR 1 [i0]),(aR 1 [i1]),(aV 2)]
noncomputable def fn36 (x : sg36.p.den) : Option sg36.r.den := st36.den [⟨sg73.key, sg73.p, sg73.r, fn73⟩, ⟨sg74.key, sg74.p, sg74.r, fn74⟩] [] sg36.r [⟨sg36.p, x⟩]
theorem spec36 : CallSpec Try.prog sg36 fn36 := spec (ss := [sg73, sg74]) (an := an36) (stm := st36) follows (Specs.cons spec73 (Specs.cons spec74 (Specs.nil) (by kernel_rfl)) (by kernel_rfl)) (by kernel_rfl) (by kernel_rfl) (fun _ => rfl)
theorem eq36 : fn36 = Pf.laws_toConn := by kernel_rfl
-- laws.eqConn
def sg38 : Sig := ⟨38,38,[.val i1 (tP tI (tP (tP tI tI) (tS 57 (tP tI tI)))),.val i1 (tP tI (tP (tP tI tI) (tS 57 (tP tI tI))))],[.val i0 tB i1]⟩
def an38 : Ann := ⟨22,[],[],[],[],[]⟩
def st38 : Stm := sB (.cmp .ne i6 (aR 0 [i0,i0]) (aR 0 [i1,i0])) <| sI (aV 1) (sR tB [(.bool false)]) <| sB (.call 77 [(aR 0 [i0,i1,i0,i0]),(aR 0 [i0,i1,i0,i1]),(aR 0 [i1,i1,i0,i0]),(aR 0 [i1,i1,i0,i1])]) <| sB (.not (aV 2)) <| sI (aV 3) (sR tB [(.bool false)]) <| sB (.call 51 [(aR 0 [i0,i1,i1]),(aR 0 [i1,i1,i1])]) <| sB (.not (aV 4)) <| sI (aV 5) (sR tB [(.bool false)]) <| sR tB [(.bool true)]
noncomputable def fn38 (x : sg38.p.den) : Option sg38.r.den := st38.den [⟨sg77.key, sg77.p, sg77.r, fn77⟩, ⟨sg51.key, sg51.p, sg51.r, fn51⟩] [] sg38.r [⟨sg38.p, x⟩]
theorem spec38 : CallSpec Try.prog sg38 fn38 := spec (ss := [sg77, sg51]) (an := an38) (stm := st38) follows (Specs.cons spec77 (Specs.cons spec51 (Specs.nil) (by kernel_rfl)) (by kernel_rfl)) (by kernel_rfl) (by kernel_rfl) (fun _ => rfl)
theorem eq38 : fn38 = Pf.laws_eqConn := by kernel_rfl
-- spec.TileKind
def sg62 : Sig := ⟨62,62,[.val i1 (tP tI (tP tI (tP tI tI))),.val i0 tI],[.val i0 tI i1]⟩
def an62 : Ann := ⟨55,[],[],[],[],[]⟩
def st62 : Stm := sB (.call 61 [(aR 0 [i0,i0]),(aR 0 [i0,i1,i0]),(aR 0 [i0,i1,i1,i0]),(aR 0 [i0,i1,i1,i1])]) <| sB (.not (aV 1)) <| sI (aV 2) (sR tI [(aI (-1))]) <| sB (.cmp .lt i6 (aR 0 [i1]) (aI 0)) <| sI (aV 3) (sR tI [(aI (-1))]) <| sB (.bin .mul i6 (aR 0 [i0,i0]) (aR 0 [i0,i1,i0])) <| sB (.cmp .ge i6 (aR 0 [i1]) (aV 4)) <| sI (aV 5) (sR tI [(aI (-1))]) <| sB (.rem i6 (aR 0 [i1]) (aR 0 [i0,i0])) <| sB (.div i6 (aR 0 [i1]) (aR 0 [i0,i0])) <| sB (.cmp .eq i6 (aV 6) (aI 0)) <| sI (aV 8) (sR tI [(aI 0)]) <| sB (.cmp .eq i6 (aV 7) (aI 0)) <| sI (aV 9) (sR tI [(aI 0)]) <| sB (.bin .sub i6 (aR 0 [i0,i0]) (aI 1)) <| sB (.cmp .eq i6 (aV 6) (aV 10)) <| sI (aV 11) (sR tI [(aI 0)]) <| sB (.bin .sub i6 (aR 0 [i0,i1,i0]) (aI 1)) <| sB (.cmp .eq i6 (aV 7) (aV 12)) <| sI (aV 13) (sR tI [(aI 0)]) <| sB (.cmp .eq i6 (aV 6) (aR 0 [i0,i1,i1,i1])) <| sI (aV 14) (sR tI [(aI 2)]) <| sR tI [(aI 1)]
noncomputable def fn62 (x : sg62.p.den) : Option sg62.r.den := st62.den [⟨sg61.key, sg61.p, sg61.r, fn61⟩] [] sg62.r [⟨sg62.p, x⟩]
theorem spec62 : CallSpec Try.prog sg62 fn62 := spec (ss := [sg61]) (an := an62) (stm := st62) follows (Specs.cons spec61 (Specs.nil) (by kernel_rfl)) (by kernel_rfl) (by kernel_rfl) (fun _ => rfl)
theorem eq62 : fn62 = Pf.spec_TileKind := by kernel_rfl
-- impl.tileOk
def sg76 : Sig := ⟨76,76,[.val i1 (tP tI (tP tI (tP tI tI))),.val i0 tI],[.val i0 tB i1]⟩
def an76 : Ann := ⟨17,[],[],[],[],[]⟩
def st76 : Stm := sB (.call 64 [(aR 0 [i0,i0]),(aR 0 [i0,i1,i0]),(aR 0 [i0,i1,i1,i0]),(aR 0 [i0,i1,i1,i1])]) <| sI (aV 1) (sB (.bin .mul i6 (aR 0 [i0,i0]) (aR 0 [i0,i1,i0])) <| sB (.bin .sub i6 (aV 2) (aI 1)) <| sB (.call 60 [(aR 0 [i1]),(aI 0),(aV 3)]) <| sR tB [(aV 4)]) <| sR tB [(.bool false)]
noncomputable def fn76 (x : sg76.p.den) : Option sg76.r.den := st76.den [⟨sg64.key, sg64.p, sg64.r, fn64⟩, ⟨sg60.key, sg60.p, sg60.r, fn60⟩] [] sg76.r [⟨sg76.p, x⟩]
theorem spec76 : CallSpec Try.prog sg76 fn76 := spec (ss := [sg64, sg60]) (an := an76) (stm := st76) follows (Specs.cons spec64 (Specs.cons spec60 (Specs.nil) (by kernel_rfl)) (by kernel_rfl)) (by kernel_rfl) (by kernel_rfl) (fun _ => rfl)
theorem eq76 : fn76 = Pf.impl_tileOk := by kernel_rfl
-- laws.toConnS
def sg31 : Sig := ⟨31,31,[.val i0 (tS 54 (tP tI (tP (tP tI tI) (tS 51 (tP tI tI)))))],[.val i0 (tS 60 (tP tI (tP (tP tI tI) (tS 57 (tP tI tI))))) i0]⟩
def an31 : Ann := ⟨23,[],[],[(0,(tP tI (tS 60 (tP tI (tP (tP tI tI) (tS 57 (tP tI tI)))))),[(0,(.c (.s none (aV 0)))),(3,(.c (.h 0))),(4,(sW (aR 3 [i0])))],[(.list 60 (tP tI (tP (tP tI tI) (tS 57 (tP tI tI)))) (aR 3 [i1]) i0 none)])],[],[]⟩
def st31 : Stm := sB (.len (aV 0)) <| sB (.make 48 60 (tP tI (tP (tP tI tI) (tS 57 (tP tI tI)))) (aV 1)) <| sL (tP tI (tS 60 (tP tI (tP (tP tI tI) (tS 57 (tP tI tI)))))) [(aI 0),(aV 2)] <| sB (.len (aV 0)) <| sB (.cmp .lt i6 (aR 3 [i0]) (aV 4)) <| sI (aV 5) (sB (.get (aV 0) (aR 3 [i0])) <| sB (.call 36 [(aR 6 [i0]),(aR 6 [i1,i0,i0]),(aR 6 [i1,i0,i1]),(aR 6 [i1,i1])]) <| sB (.idx (aR 3 [i1]) (aR 3 [i0])) <| sB (.get (aR 3 [i1]) (aR 3 [i0])) <| sB (.mk (tP tI (tP (tP tI tI) (tS 57 (tP tI tI)))) [(aR 7 [i0]),(aR 7 [i1,i0,i0]),(aR 7 [i1,i0,i1]),(aR 7 [i1,i1])]) <| sB (.set (aR 3 [i1]) (aR 3 [i0]) (aV 10)) <| sB (.bin .add i6 (aR 3 [i0]) (aI 1)) <| sN (tP tI (tS 60 (tP tI (tP (tP tI tI) (tS 57 (tP tI tI)))))) [(aV 12),(aV 11)]) <| sU <| sR (tS 60 (tP tI (tP (tP tI tI) (tS 57 (tP tI tI))))) [(aR 3 [i1])]
noncomputable def fn31 (x : sg31.p.den) : Option sg31.r.den := st31.den [⟨sg36.key, sg36.p, sg36.r, fn36⟩] [] sg31.r [⟨sg31.p, x⟩]
theorem spec31 : CallSpec Try.prog sg31 fn31 := spec (ss := [sg36]) (an := an31) (stm := st31) follows (Specs.cons spec36 (Specs.nil) (by kernel_rfl)) (by kernel_rfl) (by kernel_rfl) (fun _ => rfl)
theorem eq31 : fn31 = Pf.laws_toConnS := by kernel_rfl
-- laws.eqConnS
def sg33 : Sig := ⟨33,33,[.val i0 (tS 60 (tP tI (tP (tP tI tI) (tS 57 (tP tI tI))))),.val i0 (tS 60 (tP tI (tP (tP tI tI) (tS 57 (tP tI tI)))))],[.val i0 tB i1]⟩
def an33 : Ann := ⟨27,[(6,[0,1,2,3,4,5,6,7,8,9])],[],[(0,tI,[(0,(.c (.s none (aR 0 [i0])))),(1,(.c (.s none (aR 0 [i1])))),(5,(sW (aV 4)))],[])],[],[]⟩
def st33 : Stm := sB (.len (aR 0 [i0])) <| sB (.len (aR 0 [i1])) <| sB (.cmp .ne i6 (aV 1) (aV 2)) <| sI (aV 3) (sR tB [(.bool false)]) <| sL tI [(aI 0)] <| sB (.len (aR 0 [i0])) <| sB (.cmp .lt i6 (aV 4) (aV 5)) <| sI (aV 6) (sB (.get (aR 0 [i0]) (aV 4)) <| sB (.get (aR 0 [i1]) (aV 4)) <| sB (.call 38 [(aR 7 [i0]),(aR 7 [i1,i0,i0]),(aR 7 [i1,i0,i1]),(aR 7 [i1,i1]),(aR 8 [i0]),(aR 8 [i1,i0,i0]),(aR 8 [i1,i0,i1]),(aR 8 [i1,i1])]) <| sB (.not (aV 9)) <| sI (aV 10) (sU <| sR tB [(.bool false)]) <| sB (.bin .add i6 (aV 4) (aI 1)) <| sN tI [(aV 11)]) <| sU <| sR tB [(.bool true)]
noncomputable def fn33 (x : sg33.p.den) : Option sg33.r.den := st33.den [⟨sg38.key, sg38.p, sg38.r, fn38⟩] [] sg33.r [⟨sg33.p, x⟩]
theorem spec33 : CallSpec Try.prog sg33 fn33 := spec (ss := [sg38]) (an := an33) (stm := st33) follows (Specs.cons spec38 (Specs.nil) (by kernel_rfl)) (by kernel_rfl) (by kernel_rfl) (fun _ => rfl)
theorem eq33 : fn33 = Pf.laws_eqConnS := by kernel_rfl
-- spec.ConnSpan
def sg35 : Sig := ⟨35,35,[.val i1 (tP tI (tP tI (tP tI tI))),.val i0 (tS 3 tI),.val i1 (tP tI (tP (tP tI tI) (tS 57 (tP tI tI))))],[.val i0 tI i1]⟩
def an35 : Ann := ⟨98,[(12,[0,1,2,3,4,5,6,7,8,9,10,11,12,13,14,15,16]),(14,[0,1,2,3,4,5,6,7,8,9]),(15,[0,1,2,3,4,5,6,7,8,9]),(16,[0,1,2,3,4,5,6,7,8,9]),(17,[0,1,2,3,4,5,6,7,8,9])],[],[(0,(tP tI (tP tI (tP tI (tP tI tI)))),[(1,(.c (.s none (aR 0 [i1,i0])))),(3,(.c (.h 0))),(7,(.c (.h 2))),(8,(sW (aR 5 [i0]))),(9,(sW (aR 5 [i1,i0]))),(10,(sW (aR 5 [i1,i1,i0]))),(11,(sW (aR 5 [i1,i1,i1,i0]))),(12,(sW (aR 5 [i1,i1,i1,i1])))],[(.box 37 [(sV (aR 0 [i0,i0])),(sV (aR 0 [i0,i1,i0])),(sV (aR 0 [i0,i1,i1,i0])),(sV (aR 0 [i0,i1,i1,i1]))]),.dead,(.list 57 (tP tI tI) (aV 4) i1 none)])],[],[]⟩
def st35 : Stm := sB (.call 61 [(aR 0 [i0,i0]),(aR 0 [i0,i1,i0]),(aR 0 [i0,i1,i1,i0]),(aR 0 [i0,i1,i1,i1])]) <| sB (.not (aV 1)) <| sI (aV 2) (sR tI [(aI (-1))]) <| sB (.lst 57 (tP tI tI) [[(aR 0 [i1,i1,i1,i0,i0]),(aR 0 [i1,i1,i1,i0,i1])]]) <| sB (.app 16 (aV 3) (aR 0 [i1,i1,i1,i1])) <| sL (tP tI (tP tI (tP tI (tP tI tI)))) [(aR 0 [i0,i0]),(aI 0),(aR 0 [i0,i1,i0]),(aI 0),(aI 0)] <| sB (.len (aV 4)) <| sB (.cmp .lt i6 (aR 5 [i1,i1,i1,i1]) (aV 6)) <| sI (aV 7) (sB (.idx (aV 4) (aR 5 [i1,i1,i1,i1])) <| sB (.get (aV 4) (aR 5 [i1,i1,i1,i1])) <| sB (.cmp .lt i6 (aR 9 [i0]) (aI 0)) <| sI (aV 10) (sU <| sR tI [(aI (-1))]) <| sB (.len (aR 0 [i1,i0])) <| sB (.cmp .ge i6 (aR 9 [i0]) (aV 11)) <| sI (aV 12) (sU <| sR tI [(aI (-1))]) <| sB (.get (aR 0 [i1,i0]) (aR 9 [i0])) <| sB (.call 62 [(aR 0 [i0,i0]),(aR 0 [i0,i1,i0]),(aR 0 [i0,i1,i1,i0]),(aR 0 [i0,i1,i1,i1]),(aV 13)]) <| sB (.cmp .lt i6 (aV 14) (aI 0)) <| sI (aV 15) (sU <| sR tI [(aI (-1))]) <| sB (.get (aR 0 [i1,i0]) (aR 9 [i0])) <| sB (.rem i6 (aV 16) (aR 0 [i0,i0])) <| sB (.min i6 (aR 5 [i0]) (aV 17)) <| sB (.get (aR 0 [i1,i0]) (aR 9 [i0])) <| sB (.rem i6 (aV 19) (aR 0 [i0,i0])) <| sB (.max i6 (aR 5 [i1,i0]) (aV 20)) <| sB (.get (aR 0 [i1,i0]) (aR 9 [i0])) <| sB (.div i6 (aV 22) (aR 0 [i0,i0])) <| sB (.min i6 (aR 5 [i1,i1,i0]) (aV 23)) <| sB (.get (aR 0 [i1,i0]) (aR 9 [i0])) <| sB (.div i6 (aV 25) (aR 0 [i0,i0])) <| sB (.max i6 (aR 5 [i1,i1,i1,i0]) (aV 26)) <| sB (.bin .add i6 (aR 5 [i1,i1,i1,i1]) (aI 1)) <| sN (tP tI (tP tI (tP tI (tP tI tI)))) [(aV 18),(aV 21),(aV 24),(aV 27),(aV 28)]) <| sU <| sB (.bin .sub i6 (aR 5 [i1,i0]) (aR 5 [i0])) <| sB (.bin .add i6 (aV 8) (aR 5 [i1,i1,i1,i0])) <| sB (.bin .sub i6 (aV 9) (aR 5 [i1,i1,i0])) <| sR tI [(aV 10)]
noncomputable def fn35 (x : sg35.p.den) : Option sg35.r.den := st35.den [⟨sg61.key, sg61.p, sg61.r, fn61⟩, ⟨sg62.key, sg62.p, sg62.r, fn62⟩] [] sg35.r [⟨sg35.p, x⟩]
theorem spec35 : CallSpec Try.prog sg35 fn35 := spec (ss := [sg61, sg62]) (an := an35) (stm := st35) follows (Specs.cons spec61 (Specs.cons spec62 (Specs.nil) (by kernel_rfl)) (by kernel_rfl)) (by kernel_rfl) (by kernel_rfl) (fun _ => rfl)
theorem eq35 : fn35 = Pf.spec_ConnSpan := by kernel_rfl
-- impl.ConnSpan
def sg37 : Sig := ⟨37,37,[.val i1 (tP tI (tP tI (tP tI tI))),.val i0 (tS 3 tI),.val i1 (tP tI (tP (tP tI tI) (tS 57 (tP tI tI))))],[.val i0 tI i1]⟩
def an37 : Ann := ⟨78,[(7,[0,1,2,3,4,5,6,7,8,9,10,11,12,13,14,15,16]),(9,[0,1,2,3,4,5,6,7,8,9,10,11,12,13,14,15,16,17])],[],[(0,(tP tI (tP tI (tP tI (tP tI tI)))),[(1,(.c (.s none (aR 0 [i1,i0])))),(3,(.c (.h 0))),(7,(sW (aR 5 [i0]))),(8,(sW (aR 5 [i1,i0]))),(9,(sW (aR 5 [i1,i1,i0]))),(10,(sW (aR 5 [i1,i1,i1,i0]))),(19,(.c (.h 2))),(20,(sW (aV 4))),(21,(sW (aR 5 [i1,i1,i1,i1])))],[(.box 37 [(sV (aR 0 [i0,i0])),(sV (aR 0 [i0,i1,i0])),(sV (aR 0 [i0,i1,i1,i0])),(sV (aR 0 [i0,i1,i1,i1]))]),.dead,(.list 57 (tP tI tI) (aV 3) i1 none)])],[],[]⟩
def st37 : Stm := sB (.call 64 [(aR 0 [i0,i0]),(aR 0 [i0,i1,i0]),(aR 0 [i0,i1,i1,i0]),(aR 0 [i0,i1,i1,i1])]) <| sB (.not (aV 1)) <| sI (aV 2) (sR tI [(aI (-1))]) <| sB (.call 75 [(aR 0 [i1,i1,i0]),(aR 0 [i1,i1,i1,i0,i0]),(aR 0 [i1,i1,i1,i0,i1]),(aR 0 [i1,i1,i1,i1])]) <| sB (.len (aV 3)) <| sL (tP tI (tP tI (tP tI (tP tI tI)))) [(aI 6),(aI (-1)),(aI 6),(aI (-1)),(aI 0)] <| sB (.cmp .lt i6 (aR 5 [i1,i1,i1,i1]) (aV 4)) <| sI (aV 6) (sB (.idx (aV 3) (aR 5 [i1,i1,i1,i1])) <| sB (.get (aV 3) (aR 5 [i1,i1,i1,i1])) <| sB (.len (aR 0 [i1,i0])) <| sB (.bin .sub i6 (aV 9) (aI 1)) <| sB (.call 60 [(aR 8 [i0]),(aI 0),(aV 10)]) <| sB (.not (aV 11)) <| sI (aV 12) (sU <| sR tI [(aI (-1))]) <| sB (.get (aR 0 [i1,i0]) (aR 8 [i0])) <| sB (.call 76 [(aR 0 [i0,i0]),(aR 0 [i0,i1,i0]),(aR 0 [i0,i1,i1,i0]),(aR 0 [i0,i1,i1,i1]),(aV 13)]) <| sB (.not (aV 14)) <| sI (aV 15) (sU <| sR tI [(aI (-1))]) <| sB (.get (aR 0 [i1,i0]) (aR 8 [i0])) <| sB (.rem i6 (aV 16) (aR 0 [i0,i0])) <| sB (.get (aR 0 [i1,i0]) (aR 8 [i0])) <| sB (.div i6 (aV 18) (aR 0 [i0,i0])) <| sB (.min i6 (aR 5 [i0]) (aV 17)) <| sB (.max i6 (aR 5 [i1,i0]) (aV 17)) <| sB (.min i6 (aR 5 [i1,i1,i0]) (aV 19)) <| sB (.max i6 (aR 5 [i1,i1,i1,i0]) (aV 19)) <| sB (.bin .add i6 (aR 5 [i1,i1,i1,i1]) (aI 1)) <| sN (tP tI (tP tI (tP tI (tP tI tI)))) [(aV 20),(aV 21),(aV 22),(aV 23),(aV 24)]) <| sU <| sB (.bin .sub i6 (aR 5 [i1,i0]) (aR 5 [i0])) <| sB (.bin .add i6 (aV 7) (aR 5 [i1,i1,i1,i0])) <| sB (.bin .sub i6 (aV 8) (aR 5 [i1,i1,i0])) <| sR tI [(aV 9)]
noncomputable def fn37 (x : sg37.p.den) : Option sg37.r.den := st37.den [⟨sg64.key, sg64.p, sg64.r, fn64⟩, ⟨sg75.key, sg75.p, sg75.r, fn75⟩, ⟨sg60.key, sg60.p, sg60.r, fn60⟩, ⟨sg76.key, sg76.p, sg76.r, fn76⟩] [] sg37.r [⟨sg37.p, x⟩]
theorem spec37 : CallSpec Try.prog sg37 fn37 := spec (ss := [sg64, sg75, sg60, sg76]) (an := an37) (stm := st37) follows (Specs.cons spec64 (Specs.cons spec75 (Specs.cons spec60 (Specs.cons spec76 (Specs.nil) (by kernel_rfl)) (by kernel_rfl)) (by kernel_rfl)) (by kernel_rfl)) (by kernel_rfl) (by kernel_rfl) (fun _ => rfl)
theorem eq37 : fn37 = Pf.impl_ConnSpan := by kernel_rfl
-- spec.PlaceCost
def sg47 : Sig := ⟨47,47,[.val i1 (tP tI (tP tI (tP tI tI))),.val i0 (tS 3 tI),.val i0 (tS 60 (tP tI (tP (tP tI tI) (tS 57 (tP tI tI)))))],[.val i0 tI i1]⟩
def an47 : Ann := ⟨34,[(7,[0,1,2,3,4,5,6,7])],[],[(0,(tP tI tI),[(1,(.c (.s none (aR 0 [i1,i0])))),(2,(.c (.s none (aR 0 [i1,i1])))),(3,(.c (.h 0))),(7,(sW (aR 4 [i0]))),(8,(sW (aR 4 [i1])))],[(.box 37 [(sV (aR 0 [i0,i0])),(sV (aR 0 [i0,i1,i0])),(sV (aR 0 [i0,i1,i1,i0])),(sV (aR 0 [i0,i1,i1,i1]))])])],[],[]⟩
def st47 : Stm := sB (.len (aR 0 [i1,i0])) <| sB (.call 30 [(aV 1),(aR 0 [i1,i1])]) <| sB (.not (aV 2)) <| sI (aV 3) (sR tI [(aI (-1))]) <| sL (tP tI tI) [(aI 0),(aI 0)] <| sB (.len (aR 0 [i1,i1])) <| sB (.cmp .lt i6 (aR 4 [i1]) (aV 5)) <| sI (aV 6) (sB (.get (aR 0 [i1,i1]) (aR 4 [i1])) <| sB (.call 35 [(aR 0 [i0,i0]),(aR 0 [i0,i1,i0]),(aR 0 [i0,i1,i1,i0]),(aR 0 [i0,i1,i1,i1]),(aR 0 [i1,i0]),(aR 7 [i0]),(aR 7 [i1,i0,i0]),(aR 7 [i1,i0,i1]),(aR 7 [i1,i1])]) <| sB (.cmp .lt i6 (aV 8) (aI 0)) <| sI (aV 9) (sU <| sR tI [(aI (-1))]) <| sB (.bin .add i6 (aR 4 [i0]) (aV 8)) <| sB (.bin .add i6 (aR 4 [i1]) (aI 1)) <| sN (tP tI tI) [(aV 10),(aV 11)]) <| sU <| sR tI [(aR 4 [i0])]
noncomputable def fn47 (x : sg47.p.den) : Option sg47.r.den := st47.den [⟨sg30.key, sg30.p, sg30.r, fn30⟩, ⟨sg35.key, sg35.p, sg35.r, fn35⟩] [] sg47.r [⟨sg47.p, x⟩]
theorem spec47 : CallSpec Try.prog sg47 fn47 := spec (ss := [sg30, sg35]) (an := an47) (stm := st47) follows (Specs.cons spec30 (Specs.cons spec35 (Specs.nil) (by kernel_rfl)) (by kernel_rfl)) (by kernel_rfl) (by kernel_rfl) (fun _ => rfl)
theorem eq47 : fn47 = Pf.spec_PlaceCost := by kernel_rfl
-- impl.PlaceCost
def sg48 : Sig := ⟨48,48,[.val i1 (tP tI (tP tI (tP tI tI))),.val i0 (tS 3 tI),.val i0 (tS 60 (tP tI (tP (tP tI tI) (tS 57 (tP tI tI)))))],[.val i0 tI i1]⟩
def an48 : Ann := ⟨33,[],[],[(0,(tP tI tI),[(1,(.c (.s none (aR 0 [i1,i0])))),(3,(.c (.h 0))),(7,(sW (aR 5 [i0]))),(16,(.c (.s none (aR 0 [i1,i1])))),(17,(sW (aV 4))),(18,(sW (aR 5 [i1])))],[(.box 37 [(sV (aR 0 [i0,i0])),(sV (aR 0 [i0,i1,i0])),(sV (aR 0 [i0,i1,i1,i0])),(sV (aR 0 [i0,i1,i1,i1]))])])],[],[]⟩
def st48 : Stm := sB (.len (aR 0 [i1,i0])) <| sB (.call 32 [(aV 1),(aR 0 [i1,i1])]) <| sB (.not (aV 2)) <| sI (aV 3) (sR tI [(aI (-1))]) <| sB (.len (aR 0 [i1,i1])) <| sL (tP tI tI) [(aI 0),(aI 0)] <| sB (.cmp .lt i6 (aR 5 [i1]) (aV 4)) <| sI (aV 6) (sB (.get (aR 0 [i1,i1]) (aR 5 [i1])) <| sB (.call 37 [(aR 0 [i0,i0]),(aR 0 [i0,i1,i0]),(aR 0 [i0,i1,i1,i0]),(aR 0 [i0,i1,i1,i1]),(aR 0 [i1,i0]),(aR 7 [i0]),(aR 7 [i1,i0,i0]),(aR 7 [i1,i0,i1]),(aR 7 [i1,i1])]) <| sB (.cmp .lt i6 (aV 8) (aI 0)) <| sI (aV 9) (sU <| sR tI [(aI (-1))]) <| sB (.bin .add i6 (aR 5 [i0]) (aV 8)) <| sB (.bin .add i6 (aR 5 [i1]) (aI 1)) <| sN (tP tI tI) [(aV 10),(aV 11)]) <| sU <| sR tI [(aR 5 [i0])]
noncomputable def fn48 (x : sg48.p.den) : Option sg48.r.den := st48.den [⟨sg32.key, sg32.p, sg32.r, fn32⟩, ⟨sg37.key, sg37.p, sg37.r, fn37⟩] [] sg48.r [⟨sg48.p, x⟩]
theorem spec48 : CallSpec Try.prog sg48 fn48 := spec (ss := [sg32, sg37]) (an := an48) (stm := st48) follows (Specs.cons spec32 (Specs.cons spec37 (Specs.nil) (by kernel_rfl)) (by kernel_rfl)) (by kernel_rfl) (by kernel_rfl) (fun _ => rfl)
theorem eq48 : fn48 = Pf.impl_PlaceCost := by kernel_rfl
-- laws.FnExactPlaceCost
def sg10 : Sig := ⟨10,10,[.val i1 (tP tI (tP tI (tP tI tI))),.val i0 (tS 3 tI),.val i0 (tS 54 (tP tI (tP (tP tI tI) (tS 51 (tP tI tI)))))],[.val i0 tB i1]⟩
def an10 : Ann := ⟨49,[],[],[],[],[]⟩
def st10 : Stm := sB (.len (aR 0 [i1,i0])) <| sB (.cmp .gt i6 (aV 1) (aI 1048576)) <| sI (aV 2) (sR tB [(.bool true)]) <| sB (.call 29 [(aR 0 [i1,i1]),(aI 1048576)]) <| sB (.cmp .lt i6 (aV 3) (aI 0)) <| sI (aV 4) (sR tB [(.bool true)]) <| sB (.call 24 [(aR 0 [i0,i0]),(aR 0 [i0,i1,i0]),(aR 0 [i0,i1,i1,i0]),(aR 0 [i0,i1,i1,i1])]) <| sB (.call 25 [(aR 0 [i1,i0])]) <| sB (.call 31 [(aR 0 [i1,i1])]) <| sB (.call 47 [(aR 5 [i0]),(aR 5 [i1,i0]),(aR 5 [i1,i1,i0]),(aR 5 [i1,i1,i1]),(aV 6),(aV 7)]) <| sB (.call 25 [(aR 0 [i1,i0])]) <| sB (.call 31 [(aR 0 [i1,i1])]) <| sB (.call 24 [(aR 0 [i0,i0]),(aR 0 [i0,i1,i0]),(aR 0 [i0,i1,i1,i0]),(aR 0 [i0,i1,i1,i1])]) <| sB (.call 48 [(aR 11 [i0]),(aR 11 [i1,i0]),(aR 11 [i1,i1,i0]),(aR 11 [i1,i1,i1]),(aV 9),(aV 10)]) <| sB (.cmp .ne i6 (aV 12) (aV 8)) <| sI (aV 13) (sR tB [(.bool false)]) <| sB (.call 25 [(aR 0 [i1,i0])]) <| sB (.call 18 [(aV 9),(aV 14)]) <| sB (.not (aV 15)) <| sI (aV 16) (sR tB [(.bool false)]) <| sB (.call 31 [(aR 0 [i1,i1])]) <| sB (.call 33 [(aV 10),(aV 17)]) <| sB (.not (aV 18)) <| sI (aV 19) (sR tB [(.bool false)]) <| sR tB [(.bool true)]
noncomputable def fn10 (x : sg10.p.den) : Option sg10.r.den := st10.den [⟨sg29.key, sg29.p, sg29.r, fn29⟩, ⟨sg24.key, sg24.p, sg24.r, fn24⟩, ⟨sg25.key, sg25.p, sg25.r, fn25⟩, ⟨sg31.key, sg31.p, sg31.r, fn31⟩, ⟨sg47.key, sg47.p, sg47.r, fn47⟩, ⟨sg48.key, sg48.p, sg48.r, fn48⟩, ⟨sg18.key, sg18.p, sg18.r, fn18⟩, ⟨sg33.key, sg33.p, sg33.r, fn33⟩] [] sg10.r [⟨sg10.p, x⟩]
theorem spec10 : CallSpec Try.prog sg10 fn10 := spec (ss := [sg29, sg24, sg25, sg31, sg47, sg48, sg18, sg33]) (an := an10) (stm := st10) follows (Specs.cons spec29 (Specs.cons spec24 (Specs.cons spec25 (Specs.cons spec31 (Specs.cons spec47 (Specs.cons spec48 (Specs.cons spec18 (Specs.cons spec33 (Specs.nil) (by kernel_rfl)) (by kernel_rfl)) (by kernel_rfl)) (by kernel_rfl)) (by kernel_rfl)) (by kernel_rfl)) (by kernel_rfl)) (by kernel_rfl)) (by kernel_rfl) (by kernel_rfl) (fun _ => rfl)
theorem eq10 : fn10 = Pf.laws_FnExactPlaceCost := by kernel_rfl
end Go.Proofs.Ytamaghlnjchhbaa
