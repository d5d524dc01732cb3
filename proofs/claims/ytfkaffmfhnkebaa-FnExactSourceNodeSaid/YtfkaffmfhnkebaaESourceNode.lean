/-
  Own work, printed by my tool: signatures, annotations and the compiled statements of the functions that the law reaches; each one's contract.
-/
import Derived.Test.YtfkaffmfhnkebaaD
import Derived.Test.YtfkaffmfhnkebaaProg
namespace Go.Proofs.Ytfkaffmfhnkebaa
open Go Go.Pu Go.Proofs
theorem follows : Try.prog.follows .mixedOrders = true := by kernel_rfl
-- laws.toDevice
def sg26 : Sig := ⟨26,26,[.val i1 (tP tI (tP tI (tP tI tI)))],[.val i1 (tP tI (tP tI (tP tI tI))) i1]⟩
def an26 : Ann := ⟨17,[],[],[],[],[]⟩
def st26 : Stm := sR (tP tI (tP tI (tP tI tI))) [(aR 0 [i0]),(aR 0 [i1,i0]),(aR 0 [i1,i1,i0]),(aR 0 [i1,i1,i1])]
noncomputable def fn26 (x : sg26.p.den) : Option sg26.r.den := st26.den [] [] sg26.r [⟨sg26.p, x⟩]
theorem spec26 : CallSpec Try.prog sg26 fn26 := spec (ss := []) (an := an26) (stm := st26) follows (Specs.nil) (by kernel_rfl) (by kernel_rfl) (fun _ => rfl)
theorem eq26 : fn26 = Pf.laws_toDevice := by kernel_rfl
-- laws.toIntS
def sg32 : Sig := ⟨32,32,[.val i0 (tS 3 tI)],[.val i0 (tS 3 tI) i0]⟩
def an32 : Ann := ⟨22,[],[],[(0,(tP tI (tS 3 tI)),[(0,(.c (.s none (aV 0)))),(3,(.c (.h 0))),(4,(sW (aR 3 [i0])))],[(.list 3 tI (aR 3 [i1]) i0 none)])],[],[]⟩
def st32 : Stm := sB (.len (aV 0)) <| sB (.make 8 3 tI (aV 1)) <| sL (tP tI (tS 3 tI)) [(aI 0),(aV 2)] <| sB (.len (aV 0)) <| sB (.cmp .lt i6 (aR 3 [i0]) (aV 4)) <| sI (aV 5) (sB (.get (aV 0) (aR 3 [i0])) <| sB (.idx (aR 3 [i1]) (aR 3 [i0])) <| sB (.get (aR 3 [i1]) (aR 3 [i0])) <| sB (.mk tI [(aV 6)]) <| sB (.set (aR 3 [i1]) (aR 3 [i0]) (aV 9)) <| sB (.bin .add i6 (aR 3 [i0]) (aI 1)) <| sN (tP tI (tS 3 tI)) [(aV 11),(aV 10)]) <| sU <| sR (tS 3 tI) [(aR 3 [i1])]
noncomputable def fn32 (x : sg32.p.den) : Option sg32.r.den := st32.den [] [] sg32.r [⟨sg32.p, x⟩]
theorem spec32 : CallSpec Try.prog sg32 fn32 := spec (ss := []) (an := an32) (stm := st32) follows (Specs.nil) (by kernel_rfl) (by kernel_rfl) (fun _ => rfl)
theorem eq32 : fn32 = Pf.laws_toIntS := by kernel_rfl
-- laws.eqIntS
def sg35 : Sig := ⟨35,35,[.val i0 (tS 3 tI),.val i0 (tS 3 tI)],[.val i0 tB i1]⟩
def an35 : Ann := ⟨26,[(6,[0,1,2,3,4,5,6,7,8])],[],[(0,tI,[(0,(.c (.s none (aR 0 [i0])))),(1,(.c (.s none (aR 0 [i1])))),(5,(sW (aV 4)))],[])],[],[]⟩
def st35 : Stm := sB (.len (aR 0 [i0])) <| sB (.len (aR 0 [i1])) <| sB (.cmp .ne i6 (aV 1) (aV 2)) <| sI (aV 3) (sR tB [(.bool false)]) <| sL tI [(aI 0)] <| sB (.len (aR 0 [i0])) <| sB (.cmp .lt i6 (aV 4) (aV 5)) <| sI (aV 6) (sB (.get (aR 0 [i0]) (aV 4)) <| sB (.get (aR 0 [i1]) (aV 4)) <| sB (.cmp .ne i6 (aV 7) (aV 8)) <| sI (aV 9) (sU <| sR tB [(.bool false)]) <| sB (.bin .add i6 (aV 4) (aI 1)) <| sN tI [(aV 10)]) <| sU <| sR tB [(.bool true)]
noncomputable def fn35 (x : sg35.p.den) : Option sg35.r.den := st35.den [] [] sg35.r [⟨sg35.p, x⟩]
theorem spec35 : CallSpec Try.prog sg35 fn35 := spec (ss := []) (an := an35) (stm := st35) follows (Specs.nil) (by kernel_rfl) (by kernel_rfl) (fun _ => rfl)
theorem eq35 : fn35 = Pf.laws_eqIntS := by kernel_rfl
-- spec.l27Per
def sg93 : Sig := ⟨93,93,[.val i1 (tP tI (tP tI (tP tI tI)))],[.val i0 tI i1]⟩
def an93 : Ann := ⟨7,[],[],[],[],[]⟩
def st93 : Stm := sB (.bin .mul i6 (aI 4) (aR 0 [i1,i1,i0])) <| sB (.bin .add i6 (aI 7) (aV 1)) <| sR tI [(aV 2)]
noncomputable def fn93 (x : sg93.p.den) : Option sg93.r.den := st93.den [] [] sg93.r [⟨sg93.p, x⟩]
theorem spec93 : CallSpec Try.prog sg93 fn93 := spec (ss := []) (an := an93) (stm := st93) follows (Specs.nil) (by kernel_rfl) (by kernel_rfl) (fun _ => rfl)
theorem eq93 : fn93 = Pf.spec_l27Per := by kernel_rfl
-- spec.OutPins
def sg96 : Sig := ⟨96,96,[.val i0 tI],[.val i0 tI i1]⟩
def an96 : Ann := ⟨9,[],[],[],[],[]⟩
def st96 : Stm := sB (.cmp .eq i6 (aV 0) (aI 0)) <| sI (aV 1) (sI (aV 1) (sR tI [(aI 1)]) <| sB (.cmp .eq i6 (aV 0) (aI 1)) <| sI (aV 2) (sR tI [(aI 2)]) <| sR tI [(aI 0)]) <| sB (.cmp .eq i6 (aV 0) (aI 2)) <| sI (aV 2) (sR tI [(aI 1)]) <| sB (.cmp .eq i6 (aV 0) (aI 1)) <| sI (aV 3) (sR tI [(aI 2)]) <| sR tI [(aI 0)]
noncomputable def fn96 (x : sg96.p.den) : Option sg96.r.den := st96.den [] [] sg96.r [⟨sg96.p, x⟩]
theorem spec96 : CallSpec Try.prog sg96 fn96 := spec (ss := []) (an := an96) (stm := st96) follows (Specs.nil) (by kernel_rfl) (by kernel_rfl) (fun _ => rfl)
theorem eq96 : fn96 = Pf.spec_OutPins := by kernel_rfl
-- impl.inRange
def sg100 : Sig := ⟨100,100,[.val i0 tI,.val i0 tI,.val i0 tI],[.val i0 tB i1]⟩
def an100 : Ann := ⟨15,[],[],[],[],[]⟩
def st100 : Stm := sB (.cmp .ge i6 (aR 0 [i0]) (aR 0 [i1,i0])) <| sI (aV 1) (sB (.cmp .le i6 (aR 0 [i0]) (aR 0 [i1,i1])) <| sR tB [(aV 2)]) <| sR tB [(.bool false)]
noncomputable def fn100 (x : sg100.p.den) : Option sg100.r.den := st100.den [] [] sg100.r [⟨sg100.p, x⟩]
theorem spec100 : CallSpec Try.prog sg100 fn100 := spec (ss := []) (an := an100) (stm := st100) follows (Specs.nil) (by kernel_rfl) (by kernel_rfl) (fun _ => rfl)
theorem eq100 : fn100 = Pf.impl_inRange := by kernel_rfl
-- impl.tileKind
def sg104 : Sig := ⟨104,104,[.val i1 (tP tI (tP tI (tP tI tI))),.val i0 tI],[.val i0 tI i1]⟩
def an104 : Ann := ⟨41,[(1,[0,1,2,3,4,5,6,7,8,9])],[],[],[],[]⟩
def st104 : Stm := sB (.rem i6 (aR 0 [i1]) (aR 0 [i0,i0])) <| sB (.div i6 (aR 0 [i1]) (aR 0 [i0,i0])) <| sB (.cmp .eq i6 (aV 1) (aI 0)) <| sI (aV 3) (sR tI [(aI 0)]) <| sB (.bin .sub i6 (aR 0 [i0,i0]) (aI 1)) <| sB (.cmp .eq i6 (aV 1) (aV 4)) <| sI (aV 5) (sR tI [(aI 0)]) <| sB (.cmp .eq i6 (aV 2) (aI 0)) <| sI (aV 6) (sR tI [(aI 0)]) <| sB (.bin .sub i6 (aR 0 [i0,i1,i0]) (aI 1)) <| sB (.cmp .eq i6 (aV 2) (aV 7)) <| sI (aV 8) (sR tI [(aI 0)]) <| sB (.cmp .eq i6 (aV 1) (aR 0 [i0,i1,i1,i1])) <| sI (aV 9) (sR tI [(aI 2)]) <| sR tI [(aI 1)]
noncomputable def fn104 (x : sg104.p.den) : Option sg104.r.den := st104.den [] [] sg104.r [⟨sg104.p, x⟩]
theorem spec104 : CallSpec Try.prog sg104 fn104 := spec (ss := []) (an := an104) (stm := st104) follows (Specs.nil) (by kernel_rfl) (by kernel_rfl) (fun _ => rfl)
theorem eq104 : fn104 = Pf.impl_tileKind := by kernel_rfl
-- impl.OutPins
def sg105 : Sig := ⟨105,105,[.val i0 tI],[.val i0 tI i1]⟩
def an105 : Ann := ⟨9,[],[],[],[],[]⟩
def st105 : Stm := sB (.cmp .eq i6 (aV 0) (aI 0)) <| sI (aV 1) (sI (aV 1) (sR tI [(aI 1)]) <| sB (.cmp .eq i6 (aV 0) (aI 1)) <| sI (aV 2) (sR tI [(aI 2)]) <| sR tI [(aI 0)]) <| sB (.cmp .eq i6 (aV 0) (aI 2)) <| sI (aV 2) (sR tI [(aI 1)]) <| sB (.cmp .eq i6 (aV 0) (aI 1)) <| sI (aV 3) (sR tI [(aI 2)]) <| sR tI [(aI 0)]
noncomputable def fn105 (x : sg105.p.den) : Option sg105.r.den := st105.den [] [] sg105.r [⟨sg105.p, x⟩]
theorem spec105 : CallSpec Try.prog sg105 fn105 := spec (ss := []) (an := an105) (stm := st105) follows (Specs.nil) (by kernel_rfl) (by kernel_rfl) (fun _ => rfl)
theorem eq105 : fn105 = Pf.impl_OutPins := by kernel_rfl
-- laws.szPinS
def sg109 : Sig := ⟨109,109,[.val i0 (tS 30 (tP tI tI)),.val i0 tI],[.val i0 tI i1]⟩
def an109 : Ann := ⟨12,[],[],[],[],[]⟩
def st109 : Stm := sB (.len (aR 0 [i0])) <| sB (.bin .sub i6 (aR 0 [i1]) (aV 1)) <| sB (.cmp .lt i6 (aV 2) (aI 0)) <| sI (aV 3) (sR tI [(aI (-1))]) <| sR tI [(aV 2)]
noncomputable def fn109 (x : sg109.p.den) : Option sg109.r.den := st109.den [] [] sg109.r [⟨sg109.p, x⟩]
theorem spec109 : CallSpec Try.prog sg109 fn109 := spec (ss := []) (an := an109) (stm := st109) follows (Specs.nil) (by kernel_rfl) (by kernel_rfl) (fun _ => rfl)
theorem eq109 : fn109 = Pf.laws_szPinS := by kernel_rfl
-- laws.toPin
def sg111 : Sig := ⟨111,111,[.val i1 (tP tI tI)],[.val i1 (tP tI tI) i1]⟩
def an111 : Ann := ⟨11,[],[],[],[],[]⟩
def st111 : Stm := sR (tP tI tI) [(aR 0 [i0]),(aR 0 [i1])]
noncomputable def fn111 (x : sg111.p.den) : Option sg111.r.den := st111.den [] [] sg111.r [⟨sg111.p, x⟩]
theorem spec111 : CallSpec Try.prog sg111 fn111 := spec (ss := []) (an := an111) (stm := st111) follows (Specs.nil) (by kernel_rfl) (by kernel_rfl) (fun _ => rfl)
theorem eq111 : fn111 = Pf.laws_toPin := by kernel_rfl
-- laws.eqPin
def sg114 : Sig := ⟨114,114,[.val i1 (tP tI tI),.val i1 (tP tI tI)],[.val i0 tB i1]⟩
def an114 : Ann := ⟨15,[],[],[],[],[]⟩
def st114 : Stm := sB (.cmp .ne i6 (aR 0 [i0,i0]) (aR 0 [i1,i0])) <| sI (aV 1) (sR tB [(.bool false)]) <| sB (.cmp .ne i6 (aR 0 [i0,i1]) (aR 0 [i1,i1])) <| sI (aV 2) (sR tB [(.bool false)]) <| sR tB [(.bool true)]
noncomputable def fn114 (x : sg114.p.den) : Option sg114.r.den := st114.den [] [] sg114.r [⟨sg114.p, x⟩]
theorem spec114 : CallSpec Try.prog sg114 fn114 := spec (ss := []) (an := an114) (stm := st114) follows (Specs.nil) (by kernel_rfl) (by kernel_rfl) (fun _ => rfl)
theorem eq114 : fn114 = Pf.laws_eqPin := by kernel_rfl
-- spec.l01In
def sg125 : Sig := ⟨125,125,[.val i0 tI,.val i0 tI,.val i0 tI],[.val i0 tB i1]⟩
def an125 : Ann := ⟨15,[],[],[],[],[]⟩
def st125 : Stm := sB (.cmp .ge i6 (aR 0 [i0]) (aR 0 [i1,i0])) <| sI (aV 1) (sB (.cmp .le i6 (aR 0 [i0]) (aR 0 [i1,i1])) <| sR tB [(aV 2)]) <| sR tB [(.bool false)]
noncomputable def fn125 (x : sg125.p.den) : Option sg125.r.den := st125.den [] [] sg125.r [⟨sg125.p, x⟩]
theorem spec125 : CallSpec Try.prog sg125 fn125 := spec (ss := []) (an := an125) (stm := st125) follows (Specs.nil) (by kernel_rfl) (by kernel_rfl) (fun _ => rfl)
theorem eq125 : fn125 = Pf.spec_l01In := by kernel_rfl
-- impl.perTile
def sg160 : Sig := ⟨160,160,[.val i1 (tP tI (tP tI (tP tI tI)))],[.val i0 tI i1]⟩
def an160 : Ann := ⟨7,[],[],[],[],[]⟩
def st160 : Stm := sB (.bin .mul i6 (aI 4) (aR 0 [i1,i1,i0])) <| sB (.bin .add i6 (aI 7) (aV 1)) <| sR tI [(aV 2)]
noncomputable def fn160 (x : sg160.p.den) : Option sg160.r.den := st160.den [] [] sg160.r [⟨sg160.p, x⟩]
theorem spec160 : CallSpec Try.prog sg160 fn160 := spec (ss := []) (an := an160) (stm := st160) follows (Specs.nil) (by kernel_rfl) (by kernel_rfl) (fun _ => rfl)
theorem eq160 : fn160 = Pf.impl_perTile := by kernel_rfl
-- laws.szConn
def sg30 : Sig := ⟨30,30,[.val i1 (tP tI (tP (tP tI tI) (tS 30 (tP tI tI)))),.val i0 tI],[.val i0 tI i1]⟩
def an30 : Ann := ⟨12,[],[],[],[],[]⟩
def st30 : Stm := sB (.call 109 [(aR 0 [i0,i1,i1]),(aR 0 [i1])]) <| sB (.cmp .lt i6 (aV 1) (aI 0)) <| sI (aV 2) (sR tI [(aI (-1))]) <| sR tI [(aV 1)]
noncomputable def fn30 (x : sg30.p.den) : Option sg30.r.den := st30.den [⟨sg109.key, sg109.p, sg109.r, fn109⟩] [] sg30.r [⟨sg30.p, x⟩]
theorem spec30 : CallSpec Try.prog sg30 fn30 := spec (ss := [sg109]) (an := an30) (stm := st30) follows (Specs.cons spec109 (Specs.nil) (by kernel_rfl)) (by kernel_rfl) (by kernel_rfl) (fun _ => rfl)
theorem eq30 : fn30 = Pf.laws_szConn := by kernel_rfl
-- impl.DeviceOk
def sg99 : Sig := ⟨99,99,[.val i1 (tP tI (tP tI (tP tI tI)))],[.val i0 tB i1]⟩
def an99 : Ann := ⟨29,[],[],[],[],[]⟩
def st99 : Stm := sB (.call 100 [(aR 0 [i0]),(aI 3),(aI 6)]) <| sI (aV 1) (sB (.call 100 [(aR 0 [i1,i0]),(aI 3),(aI 6)]) <| sI (aV 2) (sB (.call 100 [(aR 0 [i1,i1,i0]),(aI 1),(aI 4)]) <| sI (aV 3) (sB (.cmp .eq i6 (aR 0 [i1,i1,i1]) (aI (-1))) <| sI (aV 4) (sR tB [(.bool true)]) <| sB (.bin .sub i6 (aR 0 [i0]) (aI 2)) <| sB (.call 100 [(aR 0 [i1,i1,i1]),(aI 1),(aV 5)]) <| sR tB [(aV 6)]) <| sR tB [(.bool false)]) <| sR tB [(.bool false)]) <| sR tB [(.bool false)]
noncomputable def fn99 (x : sg99.p.den) : Option sg99.r.den := st99.den [⟨sg100.key, sg100.p, sg100.r, fn100⟩] [] sg99.r [⟨sg99.p, x⟩]
theorem spec99 : CallSpec Try.prog sg99 fn99 := spec (ss := [sg100]) (an := an99) (stm := st99) follows (Specs.cons spec100 (Specs.nil) (by kernel_rfl)) (by kernel_rfl) (by kernel_rfl) (fun _ => rfl)
theorem eq99 : fn99 = Pf.impl_DeviceOk := by kernel_rfl
-- laws.toPinS
def sg112 : Sig := ⟨112,112,[.val i0 (tS 30 (tP tI tI))],[.val i0 (tS 37 (tP tI tI)) i0]⟩
def an112 : Ann := ⟨23,[],[],[(0,(tP tI (tS 37 (tP tI tI))),[(0,(.c (.s none (aV 0)))),(3,(.c (.h 0))),(4,(sW (aR 3 [i0])))],[(.list 37 (tP tI tI) (aR 3 [i1]) i0 none)])],[],[]⟩
def st112 : Stm := sB (.len (aV 0)) <| sB (.make 16 37 (tP tI tI) (aV 1)) <| sL (tP tI (tS 37 (tP tI tI))) [(aI 0),(aV 2)] <| sB (.len (aV 0)) <| sB (.cmp .lt i6 (aR 3 [i0]) (aV 4)) <| sI (aV 5) (sB (.get (aV 0) (aR 3 [i0])) <| sB (.call 111 [(aR 6 [i0]),(aR 6 [i1])]) <| sB (.idx (aR 3 [i1]) (aR 3 [i0])) <| sB (.get (aR 3 [i1]) (aR 3 [i0])) <| sB (.mk (tP tI tI) [(aR 7 [i0]),(aR 7 [i1])]) <| sB (.set (aR 3 [i1]) (aR 3 [i0]) (aV 10)) <| sB (.bin .add i6 (aR 3 [i0]) (aI 1)) <| sN (tP tI (tS 37 (tP tI tI))) [(aV 12),(aV 11)]) <| sU <| sR (tS 37 (tP tI tI)) [(aR 3 [i1])]
noncomputable def fn112 (x : sg112.p.den) : Option sg112.r.den := st112.den [⟨sg111.key, sg111.p, sg111.r, fn111⟩] [] sg112.r [⟨sg112.p, x⟩]
theorem spec112 : CallSpec Try.prog sg112 fn112 := spec (ss := [sg111]) (an := an112) (stm := st112) follows (Specs.cons spec111 (Specs.nil) (by kernel_rfl)) (by kernel_rfl) (by kernel_rfl) (fun _ => rfl)
theorem eq112 : fn112 = Pf.laws_toPinS := by kernel_rfl
-- laws.eqPinS
def sg115 : Sig := ⟨115,115,[.val i0 (tS 37 (tP tI tI)),.val i0 (tS 37 (tP tI tI))],[.val i0 tB i1]⟩
def an115 : Ann := ⟨27,[(6,[0,1,2,3,4,5,6,7,8,9])],[],[(0,tI,[(0,(.c (.s none (aR 0 [i0])))),(1,(.c (.s none (aR 0 [i1])))),(5,(sW (aV 4)))],[])],[],[]⟩
def st115 : Stm := sB (.len (aR 0 [i0])) <| sB (.len (aR 0 [i1])) <| sB (.cmp .ne i6 (aV 1) (aV 2)) <| sI (aV 3) (sR tB [(.bool false)]) <| sL tI [(aI 0)] <| sB (.len (aR 0 [i0])) <| sB (.cmp .lt i6 (aV 4) (aV 5)) <| sI (aV 6) (sB (.get (aR 0 [i0]) (aV 4)) <| sB (.get (aR 0 [i1]) (aV 4)) <| sB (.call 114 [(aR 7 [i0]),(aR 7 [i1]),(aR 8 [i0]),(aR 8 [i1])]) <| sB (.not (aV 9)) <| sI (aV 10) (sU <| sR tB [(.bool false)]) <| sB (.bin .add i6 (aV 4) (aI 1)) <| sN tI [(aV 11)]) <| sU <| sR tB [(.bool true)]
noncomputable def fn115 (x : sg115.p.den) : Option sg115.r.den := st115.den [⟨sg114.key, sg114.p, sg114.r, fn114⟩] [] sg115.r [⟨sg115.p, x⟩]
theorem spec115 : CallSpec Try.prog sg115 fn115 := spec (ss := [sg114]) (an := an115) (stm := st115) follows (Specs.cons spec114 (Specs.nil) (by kernel_rfl)) (by kernel_rfl) (by kernel_rfl) (fun _ => rfl)
theorem eq115 : fn115 = Pf.laws_eqPinS := by kernel_rfl
-- spec.DeviceOk
def sg124 : Sig := ⟨124,124,[.val i1 (tP tI (tP tI (tP tI tI)))],[.val i0 tB i1]⟩
def an124 : Ann := ⟨29,[],[],[],[],[]⟩
def st124 : Stm := sB (.call 125 [(aR 0 [i0]),(aI 3),(aI 6)]) <| sI (aV 1) (sB (.call 125 [(aR 0 [i1,i0]),(aI 3),(aI 6)]) <| sI (aV 2) (sB (.call 125 [(aR 0 [i1,i1,i0]),(aI 1),(aI 4)]) <| sI (aV 3) (sB (.cmp .eq i6 (aR 0 [i1,i1,i1]) (aI (-1))) <| sI (aV 4) (sR tB [(.bool true)]) <| sB (.bin .sub i6 (aR 0 [i0]) (aI 2)) <| sB (.call 125 [(aR 0 [i1,i1,i1]),(aI 1),(aV 5)]) <| sR tB [(aV 6)]) <| sR tB [(.bool false)]) <| sR tB [(.bool false)]) <| sR tB [(.bool false)]
noncomputable def fn124 (x : sg124.p.den) : Option sg124.r.den := st124.den [⟨sg125.key, sg125.p, sg125.r, fn125⟩] [] sg124.r [⟨sg124.p, x⟩]
theorem spec124 : CallSpec Try.prog sg124 fn124 := spec (ss := [sg125]) (an := an124) (stm := st124) follows (Specs.cons spec125 (Specs.nil) (by kernel_rfl)) (by kernel_rfl) (by kernel_rfl) (fun _ => rfl)
theorem eq124 : fn124 = Pf.spec_DeviceOk := by kernel_rfl
-- laws.toConn
def sg33 : Sig := ⟨33,33,[.val i1 (tP tI (tP (tP tI tI) (tS 30 (tP tI tI))))],[.val i1 (tP tI (tP (tP tI tI) (tS 37 (tP tI tI)))) i0]⟩
def an33 : Ann := ⟨16,[],[],[],[],[]⟩
def st33 : Stm := sB (.call 111 [(aR 0 [i1,i0,i0]),(aR 0 [i1,i0,i1])]) <| sB (.call 112 [(aR 0 [i1,i1])]) <| sR (tP tI (tP (tP tI tI) (tS 37 (tP tI tI)))) [(aR 0 [i0]),(aR 1 [i0]),(aR 1 [i1]),(aV 2)]
noncomputable def fn33 (x : sg33.p.den) : Option sg33.r.den := st33.den [⟨sg111.key, sg111.p, sg111.r, fn111⟩, ⟨sg112.key, sg112.p, sg112.r, fn112⟩] [] sg33.r [⟨sg33.p, x⟩]
theorem spec33 : CallSpec Try.prog sg33 fn33 := spec (ss := [sg111, sg112]) (an := an33) (stm := st33) follows (Specs.cons spec111 (Specs.cons spec112 (Specs.nil) (by kernel_rfl)) (by kernel_rfl)) (by kernel_rfl) (by kernel_rfl) (fun _ => rfl)
theorem eq33 : fn33 = Pf.laws_toConn := by kernel_rfl
-- laws.eqConn
def sg36 : Sig := ⟨36,36,[.val i1 (tP tI (tP (tP tI tI) (tS 37 (tP tI tI)))),.val i1 (tP tI (tP (tP tI tI) (tS 37 (tP tI tI))))],[.val i0 tB i1]⟩
def an36 : Ann := ⟨22,[],[],[],[],[]⟩
def st36 : Stm := sB (.cmp .ne i6 (aR 0 [i0,i0]) (aR 0 [i1,i0])) <| sI (aV 1) (sR tB [(.bool false)]) <| sB (.call 114 [(aR 0 [i0,i1,i0,i0]),(aR 0 [i0,i1,i0,i1]),(aR 0 [i1,i1,i0,i0]),(aR 0 [i1,i1,i0,i1])]) <| sB (.not (aV 2)) <| sI (aV 3) (sR tB [(.bool false)]) <| sB (.call 115 [(aR 0 [i0,i1,i1]),(aR 0 [i1,i1,i1])]) <| sB (.not (aV 4)) <| sI (aV 5) (sR tB [(.bool false)]) <| sR tB [(.bool true)]
noncomputable def fn36 (x : sg36.p.den) : Option sg36.r.den := st36.den [⟨sg114.key, sg114.p, sg114.r, fn114⟩, ⟨sg115.key, sg115.p, sg115.r, fn115⟩] [] sg36.r [⟨sg36.p, x⟩]
theorem spec36 : CallSpec Try.prog sg36 fn36 := spec (ss := [sg114, sg115]) (an := an36) (stm := st36) follows (Specs.cons spec114 (Specs.cons spec115 (Specs.nil) (by kernel_rfl)) (by kernel_rfl)) (by kernel_rfl) (by kernel_rfl) (fun _ => rfl)
theorem eq36 : fn36 = Pf.laws_eqConn := by kernel_rfl
-- spec.TileKind
def sg95 : Sig := ⟨95,95,[.val i1 (tP tI (tP tI (tP tI tI))),.val i0 tI],[.val i0 tI i1]⟩
def an95 : Ann := ⟨55,[],[],[],[],[]⟩
def st95 : Stm := sB (.call 124 [(aR 0 [i0,i0]),(aR 0 [i0,i1,i0]),(aR 0 [i0,i1,i1,i0]),(aR 0 [i0,i1,i1,i1])]) <| sB (.not (aV 1)) <| sI (aV 2) (sR tI [(aI (-1))]) <| sB (.cmp .lt i6 (aR 0 [i1]) (aI 0)) <| sI (aV 3) (sR tI [(aI (-1))]) <| sB (.bin .mul i6 (aR 0 [i0,i0]) (aR 0 [i0,i1,i0])) <| sB (.cmp .ge i6 (aR 0 [i1]) (aV 4)) <| sI (aV 5) (sR tI [(aI (-1))]) <| sB (.rem i6 (aR 0 [i1]) (aR 0 [i0,i0])) <| sB (.div i6 (aR 0 [i1]) (aR 0 [i0,i0])) <| sB (.cmp .eq i6 (aV 6) (aI 0)) <| sI (aV 8) (sR tI [(aI 0)]) <| sB (.cmp .eq i6 (aV 7) (aI 0)) <| sI (aV 9) (sR tI [(aI 0)]) <| sB (.bin .sub i6 (aR 0 [i0,i0]) (aI 1)) <| sB (.cmp .eq i6 (aV 6) (aV 10)) <| sI (aV 11) (sR tI [(aI 0)]) <| sB (.bin .sub i6 (aR 0 [i0,i1,i0]) (aI 1)) <| sB (.cmp .eq i6 (aV 7) (aV 12)) <| sI (aV 13) (sR tI [(aI 0)]) <| sB (.cmp .eq i6 (aV 6) (aR 0 [i0,i1,i1,i1])) <| sI (aV 14) (sR tI [(aI 2)]) <| sR tI [(aI 1)]
noncomputable def fn95 (x : sg95.p.den) : Option sg95.r.den := st95.den [⟨sg124.key, sg124.p, sg124.r, fn124⟩] [] sg95.r [⟨sg95.p, x⟩]
theorem spec95 : CallSpec Try.prog sg95 fn95 := spec (ss := [sg124]) (an := an95) (stm := st95) follows (Specs.cons spec124 (Specs.nil) (by kernel_rfl)) (by kernel_rfl) (by kernel_rfl) (fun _ => rfl)
theorem eq95 : fn95 = Pf.spec_TileKind := by kernel_rfl
-- impl.tileOk
def sg161 : Sig := ⟨161,161,[.val i1 (tP tI (tP tI (tP tI tI))),.val i0 tI],[.val i0 tB i1]⟩
def an161 : Ann := ⟨17,[],[],[],[],[]⟩
def st161 : Stm := sB (.call 99 [(aR 0 [i0,i0]),(aR 0 [i0,i1,i0]),(aR 0 [i0,i1,i1,i0]),(aR 0 [i0,i1,i1,i1])]) <| sI (aV 1) (sB (.bin .mul i6 (aR 0 [i0,i0]) (aR 0 [i0,i1,i0])) <| sB (.bin .sub i6 (aV 2) (aI 1)) <| sB (.call 100 [(aR 0 [i1]),(aI 0),(aV 3)]) <| sR tB [(aV 4)]) <| sR tB [(.bool false)]
noncomputable def fn161 (x : sg161.p.den) : Option sg161.r.den := st161.den [⟨sg99.key, sg99.p, sg99.r, fn99⟩, ⟨sg100.key, sg100.p, sg100.r, fn100⟩] [] sg161.r [⟨sg161.p, x⟩]
theorem spec161 : CallSpec Try.prog sg161 fn161 := spec (ss := [sg99, sg100]) (an := an161) (stm := st161) follows (Specs.cons spec99 (Specs.cons spec100 (Specs.nil) (by kernel_rfl)) (by kernel_rfl)) (by kernel_rfl) (by kernel_rfl) (fun _ => rfl)
theorem eq161 : fn161 = Pf.impl_tileOk := by kernel_rfl
-- spec.OutPin
def sg110 : Sig := ⟨110,110,[.val i1 (tP tI (tP tI (tP tI tI))),.val i0 tI,.val i0 tI],[.val i0 tI i1]⟩
def an110 : Ann := ⟨24,[],[],[],[],[]⟩
def st110 : Stm := sB (.cmp .lt i6 (aR 0 [i1,i1]) (aI 0)) <| sI (aV 1) (sR tI [(aI (-1))]) <| sB (.call 95 [(aR 0 [i0,i0]),(aR 0 [i0,i1,i0]),(aR 0 [i0,i1,i1,i0]),(aR 0 [i0,i1,i1,i1]),(aR 0 [i1,i0])]) <| sB (.call 96 [(aV 2)]) <| sB (.cmp .ge i6 (aR 0 [i1,i1]) (aV 3)) <| sI (aV 4) (sR tI [(aI (-1))]) <| sB (.call 93 [(aR 0 [i0,i0]),(aR 0 [i0,i1,i0]),(aR 0 [i0,i1,i1,i0]),(aR 0 [i0,i1,i1,i1])]) <| sB (.bin .mul i6 (aR 0 [i1,i0]) (aV 5)) <| sB (.bin .add i6 (aV 6) (aI 5)) <| sB (.bin .add i6 (aV 7) (aR 0 [i1,i1])) <| sR tI [(aV 8)]
noncomputable def fn110 (x : sg110.p.den) : Option sg110.r.den := st110.den [⟨sg95.key, sg95.p, sg95.r, fn95⟩, ⟨sg96.key, sg96.p, sg96.r, fn96⟩, ⟨sg93.key, sg93.p, sg93.r, fn93⟩] [] sg110.r [⟨sg110.p, x⟩]
theorem spec110 : CallSpec Try.prog sg110 fn110 := spec (ss := [sg95, sg96, sg93]) (an := an110) (stm := st110) follows (Specs.cons spec95 (Specs.cons spec96 (Specs.cons spec93 (Specs.nil) (by kernel_rfl)) (by kernel_rfl)) (by kernel_rfl)) (by kernel_rfl) (by kernel_rfl) (fun _ => rfl)
theorem eq110 : fn110 = Pf.spec_OutPin := by kernel_rfl
-- impl.OutPin
def sg113 : Sig := ⟨113,113,[.val i1 (tP tI (tP tI (tP tI tI))),.val i0 tI,.val i0 tI],[.val i0 tI i1]⟩
def an113 : Ann := ⟨28,[],[],[],[],[]⟩
def st113 : Stm := sB (.call 161 [(aR 0 [i0,i0]),(aR 0 [i0,i1,i0]),(aR 0 [i0,i1,i1,i0]),(aR 0 [i0,i1,i1,i1]),(aR 0 [i1,i0])]) <| sB (.not (aV 1)) <| sI (aV 2) (sR tI [(aI (-1))]) <| sB (.call 104 [(aR 0 [i0,i0]),(aR 0 [i0,i1,i0]),(aR 0 [i0,i1,i1,i0]),(aR 0 [i0,i1,i1,i1]),(aR 0 [i1,i0])]) <| sB (.call 105 [(aV 3)]) <| sB (.bin .sub i6 (aV 4) (aI 1)) <| sB (.call 100 [(aR 0 [i1,i1]),(aI 0),(aV 5)]) <| sB (.not (aV 6)) <| sI (aV 7) (sR tI [(aI (-1))]) <| sB (.call 160 [(aR 0 [i0,i0]),(aR 0 [i0,i1,i0]),(aR 0 [i0,i1,i1,i0]),(aR 0 [i0,i1,i1,i1])]) <| sB (.bin .mul i6 (aR 0 [i1,i0]) (aV 8)) <| sB (.bin .add i6 (aV 9) (aI 5)) <| sB (.bin .add i6 (aV 10) (aR 0 [i1,i1])) <| sR tI [(aV 11)]
noncomputable def fn113 (x : sg113.p.den) : Option sg113.r.den := st113.den [⟨sg161.key, sg161.p, sg161.r, fn161⟩, ⟨sg104.key, sg104.p, sg104.r, fn104⟩, ⟨sg105.key, sg105.p, sg105.r, fn105⟩, ⟨sg100.key, sg100.p, sg100.r, fn100⟩, ⟨sg160.key, sg160.p, sg160.r, fn160⟩] [] sg113.r [⟨sg113.p, x⟩]
theorem spec113 : CallSpec Try.prog sg113 fn113 := spec (ss := [sg161, sg104, sg105, sg100, sg160]) (an := an113) (stm := st113) follows (Specs.cons spec161 (Specs.cons spec104 (Specs.cons spec105 (Specs.cons spec100 (Specs.cons spec160 (Specs.nil) (by kernel_rfl)) (by kernel_rfl)) (by kernel_rfl)) (by kernel_rfl)) (by kernel_rfl)) (by kernel_rfl) (by kernel_rfl) (fun _ => rfl)
theorem eq113 : fn113 = Pf.impl_OutPin := by kernel_rfl
-- spec.SourceNode
def sg31 : Sig := ⟨31,31,[.val i1 (tP tI (tP tI (tP tI tI))),.val i0 (tS 3 tI),.val i1 (tP tI (tP (tP tI tI) (tS 37 (tP tI tI))))],[.val i0 tI i1]⟩
def an31 : Ann := ⟨30,[(3,[0,1,2,3,4,5,6,7,8,9,10,11])],[],[],[],[]⟩
def st31 : Stm := sB (.cmp .lt i6 (aR 0 [i1,i1,i1,i0,i0]) (aI 0)) <| sI (aV 1) (sR tI [(aI (-1))]) <| sB (.len (aR 0 [i1,i0])) <| sB (.cmp .ge i6 (aR 0 [i1,i1,i1,i0,i0]) (aV 2)) <| sI (aV 3) (sR tI [(aI (-1))]) <| sB (.get (aR 0 [i1,i0]) (aR 0 [i1,i1,i1,i0,i0])) <| sB (.call 110 [(aR 0 [i0,i0]),(aR 0 [i0,i1,i0]),(aR 0 [i0,i1,i1,i0]),(aR 0 [i0,i1,i1,i1]),(aV 4),(aR 0 [i1,i1,i1,i0,i1])]) <| sR tI [(aV 5)]
noncomputable def fn31 (x : sg31.p.den) : Option sg31.r.den := st31.den [⟨sg110.key, sg110.p, sg110.r, fn110⟩] [] sg31.r [⟨sg31.p, x⟩]
theorem spec31 : CallSpec Try.prog sg31 fn31 := spec (ss := [sg110]) (an := an31) (stm := st31) follows (Specs.cons spec110 (Specs.nil) (by kernel_rfl)) (by kernel_rfl) (by kernel_rfl) (fun _ => rfl)
theorem eq31 : fn31 = Pf.spec_SourceNode := by kernel_rfl
-- impl.SourceNode
def sg34 : Sig := ⟨34,34,[.val i1 (tP tI (tP tI (tP tI tI))),.val i0 (tS 3 tI),.val i1 (tP tI (tP (tP tI tI) (tS 37 (tP tI tI))))],[.val i0 tI i1]⟩
def an34 : Ann := ⟨26,[(3,[0,1,2,3,4,5,6,7,8,9,10,11])],[],[],[],[]⟩
def st34 : Stm := sB (.len (aR 0 [i1,i0])) <| sB (.bin .sub i6 (aV 1) (aI 1)) <| sB (.call 100 [(aR 0 [i1,i1,i1,i0,i0]),(aI 0),(aV 2)]) <| sB (.not (aV 3)) <| sI (aV 4) (sR tI [(aI (-1))]) <| sB (.get (aR 0 [i1,i0]) (aR 0 [i1,i1,i1,i0,i0])) <| sB (.call 113 [(aR 0 [i0,i0]),(aR 0 [i0,i1,i0]),(aR 0 [i0,i1,i1,i0]),(aR 0 [i0,i1,i1,i1]),(aV 5),(aR 0 [i1,i1,i1,i0,i1])]) <| sR tI [(aV 6)]
noncomputable def fn34 (x : sg34.p.den) : Option sg34.r.den := st34.den [⟨sg100.key, sg100.p, sg100.r, fn100⟩, ⟨sg113.key, sg113.p, sg113.r, fn113⟩] [] sg34.r [⟨sg34.p, x⟩]
theorem spec34 : CallSpec Try.prog sg34 fn34 := spec (ss := [sg100, sg113]) (an := an34) (stm := st34) follows (Specs.cons spec100 (Specs.cons spec113 (Specs.nil) (by kernel_rfl)) (by kernel_rfl)) (by kernel_rfl) (by kernel_rfl) (fun _ => rfl)
theorem eq34 : fn34 = Pf.impl_SourceNode := by kernel_rfl
-- laws.FnExactSourceNode
def sg5 : Sig := ⟨5,5,[.val i1 (tP tI (tP tI (tP tI tI))),.val i0 (tS 3 tI),.val i1 (tP tI (tP (tP tI tI) (tS 30 (tP tI tI))))],[.val i0 tB i1]⟩
def an5 : Ann := ⟨49,[(7,[0,2,4,1,3,5,6,7]),(10,[0,2,3,1,4,5]),(15,[0,1,2,3,4])],[],[],[],[]⟩
def st5 : Stm := sB (.len (aR 0 [i1,i0])) <| sB (.cmp .gt i6 (aV 1) (aI 1048576)) <| sI (aV 2) (sR tB [(.bool true)]) <| sB (.call 30 [(aR 0 [i1,i1,i0]),(aR 0 [i1,i1,i1,i0,i0]),(aR 0 [i1,i1,i1,i0,i1]),(aR 0 [i1,i1,i1,i1]),(aI 1048576)]) <| sB (.cmp .lt i6 (aV 3) (aI 0)) <| sI (aV 4) (sR tB [(.bool true)]) <| sB (.call 26 [(aR 0 [i0,i0]),(aR 0 [i0,i1,i0]),(aR 0 [i0,i1,i1,i0]),(aR 0 [i0,i1,i1,i1])]) <| sB (.call 32 [(aR 0 [i1,i0])]) <| sB (.call 33 [(aR 0 [i1,i1,i0]),(aR 0 [i1,i1,i1,i0,i0]),(aR 0 [i1,i1,i1,i0,i1]),(aR 0 [i1,i1,i1,i1])]) <| sB (.call 31 [(aR 5 [i0]),(aR 5 [i1,i0]),(aR 5 [i1,i1,i0]),(aR 5 [i1,i1,i1]),(aV 6),(aR 7 [i0]),(aR 7 [i1,i0,i0]),(aR 7 [i1,i0,i1]),(aR 7 [i1,i1])]) <| sB (.call 32 [(aR 0 [i1,i0])]) <| sB (.call 33 [(aR 0 [i1,i1,i0]),(aR 0 [i1,i1,i1,i0,i0]),(aR 0 [i1,i1,i1,i0,i1]),(aR 0 [i1,i1,i1,i1])]) <| sB (.call 26 [(aR 0 [i0,i0]),(aR 0 [i0,i1,i0]),(aR 0 [i0,i1,i1,i0]),(aR 0 [i0,i1,i1,i1])]) <| sB (.call 34 [(aR 11 [i0]),(aR 11 [i1,i0]),(aR 11 [i1,i1,i0]),(aR 11 [i1,i1,i1]),(aV 9),(aR 10 [i0]),(aR 10 [i1,i0,i0]),(aR 10 [i1,i0,i1]),(aR 10 [i1,i1])]) <| sB (.cmp .ne i6 (aV 12) (aV 8)) <| sI (aV 13) (sR tB [(.bool false)]) <| sB (.call 32 [(aR 0 [i1,i0])]) <| sB (.call 35 [(aV 9),(aV 14)]) <| sB (.not (aV 15)) <| sI (aV 16) (sR tB [(.bool false)]) <| sB (.call 33 [(aR 0 [i1,i1,i0]),(aR 0 [i1,i1,i1,i0,i0]),(aR 0 [i1,i1,i1,i0,i1]),(aR 0 [i1,i1,i1,i1])]) <| sB (.call 36 [(aR 10 [i0]),(aR 10 [i1,i0,i0]),(aR 10 [i1,i0,i1]),(aR 10 [i1,i1]),(aR 17 [i0]),(aR 17 [i1,i0,i0]),(aR 17 [i1,i0,i1]),(aR 17 [i1,i1])]) <| sB (.not (aV 18)) <| sI (aV 19) (sR tB [(.bool false)]) <| sR tB [(.bool true)]
noncomputable def fn5 (x : sg5.p.den) : Option sg5.r.den := st5.den [⟨sg30.key, sg30.p, sg30.r, fn30⟩, ⟨sg26.key, sg26.p, sg26.r, fn26⟩, ⟨sg32.key, sg32.p, sg32.r, fn32⟩, ⟨sg33.key, sg33.p, sg33.r, fn33⟩, ⟨sg31.key, sg31.p, sg31.r, fn31⟩, ⟨sg34.key, sg34.p, sg34.r, fn34⟩, ⟨sg35.key, sg35.p, sg35.r, fn35⟩, ⟨sg36.key, sg36.p, sg36.r, fn36⟩] [] sg5.r [⟨sg5.p, x⟩]
theorem spec5 : CallSpec Try.prog sg5 fn5 := spec (ss := [sg30, sg26, sg32, sg33, sg31, sg34, sg35, sg36]) (an := an5) (stm := st5) follows (Specs.cons spec30 (Specs.cons spec26 (Specs.cons spec32 (Specs.cons spec33 (Specs.cons spec31 (Specs.cons spec34 (Specs.cons spec35 (Specs.cons spec36 (Specs.nil) (by kernel_rfl)) (by kernel_rfl)) (by kernel_rfl)) (by kernel_rfl)) (by kernel_rfl)) (by kernel_rfl)) (by kernel_rfl)) (by kernel_rfl)) (by kernel_rfl) (by kernel_rfl) (fun _ => rfl)
theorem eq5 : fn5 = Pf.laws_FnExactSourceNode := by kernel_rfl
end Go.Proofs.Ytfkaffmfhnkebaa
