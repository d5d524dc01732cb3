/-
  Own work, printed by my tool: signatures, annotations and the compiled statements of the functions that the law reaches; each one's contract.
-/
import Derived.Test.YtnlcnnmdalgibaaD
import Derived.Test.YtnlcnnmdalgibaaProg
namespace Go.Proofs.Ytnlcnnmdalgibaa
open Go Go.Pu Go.Proofs
theorem follows : Try.prog.follows .mixedOrders = true := by kernel_rfl
-- laws.big
def sg5 : Sig := ⟨5,5,[.val i0 (tS 5 (.int .u8))],[.val i0 tB i1]⟩
def an5 : Ann := ⟨6,[],[],[],[],[],[]⟩
def st5 : Stm := sB (.len (aV 0)) <| sB (.cmp .gt i6 (aV 1) (aI 1048576)) <| sR tB [(aV 2)]
noncomputable def fn5 (x : sg5.p.den) : Option sg5.r.den := st5.den [] [] sg5.r [⟨sg5.p, x⟩]
theorem spec5 : CallSpec Try.prog sg5 fn5 := spec (ss := []) (an := an5) (stm := st5) follows (Specs.nil) (by kernel_rfl) (by kernel_rfl) (fun _ => rfl)
theorem eq5 : fn5 = Pf.laws_big := by kernel_rfl
-- impl.SampleDevice
def sg9 : Sig := ⟨9,9,[],[.val i1 (tP tI (tP tI (tP tI tI))) i1]⟩
def an9 : Ann := ⟨2,[],[],[],[],[],[]⟩
def st9 : Stm := sR (tP tI (tP tI (tP tI tI))) [(aI 5),(aI 5),(aI 4),(aI 2)]
noncomputable def fn9 (x : sg9.p.den) : Option sg9.r.den := st9.den [] [] sg9.r [⟨sg9.p, x⟩]
theorem spec9 : CallSpec Try.prog sg9 fn9 := spec (ss := []) (an := an9) (stm := st9) follows (Specs.nil) (by kernel_rfl) (by kernel_rfl) (fun _ => rfl)
theorem eq9 : fn9 = Pf.impl_SampleDevice := by kernel_rfl
-- laws.has
def sg10 : Sig := ⟨10,10,[.val i0 (tS 3 tI),.val i0 tI],[.val i0 tB i1]⟩
def an10 : Ann := ⟨18,[],[],[(0,tI,[(0,(.c (.s none (aR 0 [i0])))),(1,(sW (aR 0 [i1]))),(5,(sW (aV 1)))],[])],[],[],[]⟩
def st10 : Stm := sL tI [(aI 0)] <| sB (.len (aR 0 [i0])) <| sB (.cmp .lt i6 (aV 1) (aV 2)) <| sI (aV 3) (sB (.get (aR 0 [i0]) (aV 1)) <| sB (.cmp .eq i6 (aV 4) (aR 0 [i1])) <| sI (aV 5) (sU <| sR tB [(.bool true)]) <| sB (.bin .add i6 (aV 1) (aI 1)) <| sN tI [(aV 6)]) <| sU <| sR tB [(.bool false)]
noncomputable def fn10 (x : sg10.p.den) : Option sg10.r.den := st10.den [] [] sg10.r [⟨sg10.p, x⟩]
theorem spec10 : CallSpec Try.prog sg10 fn10 := spec (ss := []) (an := an10) (stm := st10) follows (Specs.nil) (by kernel_rfl) (by kernel_rfl) (fun _ => rfl)
theorem eq10 : fn10 = Pf.laws_has := by kernel_rfl
-- spec.l01New
def sg18 : Sig := ⟨18,18,[.tok 5 (.int .u8)],[.ptrK 64 (tP (tS 5 (.int .u8)) (tP tI tI)) 0]⟩
def an18 : Ann := ⟨32,[],[],[(0,(tP tI tI),[(0,(.c (.tk 0 (aV 0)))),(3,(sW (aR 3 [i0]))),(4,(sW (aR 3 [i1])))],[.dead])],[(0,tI,[(0,(.c (.tk 0 (aV 0)))),(3,(sW (aV 3)))],[.dead])],[],[]⟩
def st18 : Stm := sB (.len (aV 0)) <| sB (.bin .add i6 (aI 33117) (aV 1)) <| sJ tI (sL (tP tI tI) [(aV 2),(aI 0)] <| sB (.len (aV 0)) <| sB (.cmp .lt i6 (aR 3 [i1]) (aV 4)) <| sI (aV 5) (sB (.cmp .lt i6 (aR 3 [i1]) (aI 4000)) <| sI (aV 6) (sB (.bin .mul i6 (aR 3 [i0]) (aI 131)) <| sB (.get (aV 0) (aR 3 [i1])) <| sB (.conv .u8 i6 (aV 8)) <| sB (.bin .add i6 (aV 7) (aV 9)) <| sB (.bin .add i6 (aV 10) (aI 7)) <| sB (.bin .and i6 (aV 11) (aI 1073741823)) <| sB (.bin .add i6 (aR 3 [i1]) (aI 1)) <| sN (tP tI tI) [(aV 12),(aV 13)]) <| sU <| sN tI [(aR 3 [i0])]) <| sU <| sN tI [(aR 3 [i0])]) <| sR (tP tI tI) [(aI 0),(aV 3)]
noncomputable def fn18 (x : sg18.p.den) : Option sg18.r.den := st18.den [] [] sg18.r [⟨sg18.p, x⟩]
theorem spec18 : CallSpec Try.prog sg18 fn18 := spec (ss := []) (an := an18) (stm := st18) follows (Specs.nil) (by kernel_rfl) (by kernel_rfl) (fun _ => rfl)
theorem eq18 : fn18 = Pf.spec_l01New := by kernel_rfl
-- spec.l01In
def sg23 : Sig := ⟨23,23,[.val i0 tI,.val i0 tI,.val i0 tI],[.val i0 tB i1]⟩
def an23 : Ann := ⟨15,[],[],[],[],[],[]⟩
def st23 : Stm := sB (.cmp .ge i6 (aR 0 [i0]) (aR 0 [i1,i0])) <| sI (aV 1) (sB (.cmp .le i6 (aR 0 [i0]) (aR 0 [i1,i1])) <| sR tB [(aV 2)]) <| sR tB [(.bool false)]
noncomputable def fn23 (x : sg23.p.den) : Option sg23.r.den := st23.den [] [] sg23.r [⟨sg23.p, x⟩]
theorem spec23 : CallSpec Try.prog sg23 fn23 := spec (ss := []) (an := an23) (stm := st23) follows (Specs.nil) (by kernel_rfl) (by kernel_rfl) (fun _ => rfl)
theorem eq23 : fn23 = Pf.spec_l01In := by kernel_rfl
-- spec.l13Has
def sg24 : Sig := ⟨24,24,[.val i0 (tS 3 tI),.val i0 tI],[.val i0 tB i1]⟩
def an24 : Ann := ⟨18,[],[],[(0,tI,[(0,(.c (.s none (aR 0 [i0])))),(1,(sW (aR 0 [i1]))),(5,(sW (aV 1)))],[])],[],[],[]⟩
def st24 : Stm := sL tI [(aI 0)] <| sB (.len (aR 0 [i0])) <| sB (.cmp .lt i6 (aV 1) (aV 2)) <| sI (aV 3) (sB (.get (aR 0 [i0]) (aV 1)) <| sB (.cmp .eq i6 (aV 4) (aR 0 [i1])) <| sI (aV 5) (sU <| sR tB [(.bool true)]) <| sB (.bin .add i6 (aV 1) (aI 1)) <| sN tI [(aV 6)]) <| sU <| sR tB [(.bool false)]
noncomputable def fn24 (x : sg24.p.den) : Option sg24.r.den := st24.den [] [] sg24.r [⟨sg24.p, x⟩]
theorem spec24 : CallSpec Try.prog sg24 fn24 := spec (ss := []) (an := an24) (stm := st24) follows (Specs.nil) (by kernel_rfl) (by kernel_rfl) (fun _ => rfl)
theorem eq24 : fn24 = Pf.spec_l13Has := by kernel_rfl
-- impl.inRange
def sg26 : Sig := ⟨26,26,[.val i0 tI,.val i0 tI,.val i0 tI],[.val i0 tB i1]⟩
def an26 : Ann := ⟨15,[],[],[],[],[],[]⟩
def st26 : Stm := sB (.cmp .ge i6 (aR 0 [i0]) (aR 0 [i1,i0])) <| sI (aV 1) (sB (.cmp .le i6 (aR 0 [i0]) (aR 0 [i1,i1])) <| sR tB [(aV 2)]) <| sR tB [(.bool false)]
noncomputable def fn26 (x : sg26.p.den) : Option sg26.r.den := st26.den [] [] sg26.r [⟨sg26.p, x⟩]
theorem spec26 : CallSpec Try.prog sg26 fn26 := spec (ss := []) (an := an26) (stm := st26) follows (Specs.nil) (by kernel_rfl) (by kernel_rfl) (fun _ => rfl)
theorem eq26 : fn26 = Pf.impl_inRange := by kernel_rfl
-- impl.hasInt
def sg28 : Sig := ⟨28,28,[.val i0 (tS 3 tI),.val i0 tI],[.val i0 tB i1]⟩
def an28 : Ann := ⟨17,[],[],[(0,tI,[(1,(sW (aR 0 [i1]))),(7,(.c (.s none (aR 0 [i0])))),(8,(sW (aV 1))),(9,(sW (aV 2)))],[])],[],[],[]⟩
def st28 : Stm := sB (.len (aR 0 [i0])) <| sL tI [(aI 0)] <| sB (.cmp .lt i6 (aV 2) (aV 1)) <| sI (aV 3) (sB (.get (aR 0 [i0]) (aV 2)) <| sB (.cmp .eq i6 (aV 4) (aR 0 [i1])) <| sI (aV 5) (sU <| sR tB [(.bool true)]) <| sB (.bin .add i6 (aV 2) (aI 1)) <| sN tI [(aV 6)]) <| sU <| sR tB [(.bool false)]
noncomputable def fn28 (x : sg28.p.den) : Option sg28.r.den := st28.den [] [] sg28.r [⟨sg28.p, x⟩]
theorem spec28 : CallSpec Try.prog sg28 fn28 := spec (ss := []) (an := an28) (stm := st28) follows (Specs.nil) (by kernel_rfl) (by kernel_rfl) (fun _ => rfl)
theorem eq28 : fn28 = Pf.impl_hasInt := by kernel_rfl
-- impl.tileKind
def sg30 : Sig := ⟨30,30,[.val i1 (tP tI (tP tI (tP tI tI))),.val i0 tI],[.val i0 tI i1]⟩
def an30 : Ann := ⟨41,[(1,[0,1,2,3,4,5,6,7,8,9])],[],[],[],[],[]⟩
def st30 : Stm := sB (.rem i6 (aR 0 [i1]) (aR 0 [i0,i0])) <| sB (.div i6 (aR 0 [i1]) (aR 0 [i0,i0])) <| sB (.cmp .eq i6 (aV 1) (aI 0)) <| sI (aV 3) (sR tI [(aI 0)]) <| sB (.bin .sub i6 (aR 0 [i0,i0]) (aI 1)) <| sB (.cmp .eq i6 (aV 1) (aV 4)) <| sI (aV 5) (sR tI [(aI 0)]) <| sB (.cmp .eq i6 (aV 2) (aI 0)) <| sI (aV 6) (sR tI [(aI 0)]) <| sB (.bin .sub i6 (aR 0 [i0,i1,i0]) (aI 1)) <| sB (.cmp .eq i6 (aV 2) (aV 7)) <| sI (aV 8) (sR tI [(aI 0)]) <| sB (.cmp .eq i6 (aV 1) (aR 0 [i0,i1,i1,i1])) <| sI (aV 9) (sR tI [(aI 2)]) <| sR tI [(aI 1)]
noncomputable def fn30 (x : sg30.p.den) : Option sg30.r.den := st30.den [] [] sg30.r [⟨sg30.p, x⟩]
theorem spec30 : CallSpec Try.prog sg30 fn30 := spec (ss := []) (an := an30) (stm := st30) follows (Specs.nil) (by kernel_rfl) (by kernel_rfl) (fun _ => rfl)
theorem eq30 : fn30 = Pf.impl_tileKind := by kernel_rfl
-- spec.l01Byte
def sg38 : Sig := ⟨38,38,[.iob 64 (tP (tS 5 (.int .u8)) (tP tI tI))],[.val i0 tI i1]⟩
def an38 : Ann := ⟨58,[(2,[0,1,2,3,4,5,6,7,8,9,10,11,12]),(3,[0,1,2,3,4,5,6,7,8,9]),(4,[0,1,2,3,4,5,6,7,8,9,10,11,12,13,14])],[],[],[],[],[]⟩
def st38 : Stm := sB (.bin .mul i6 (aR 0 [i1,i1]) (aI 6364136223846793005)) <| sB (.bin .add i6 (aV 1) (aI 1442695040888963407)) <| sB (.shift i0 i6 (aV 2) (.int .u64 33)) <| sB (.shift i0 i6 (aV 2) (.int .u64 45)) <| sB (.bin .xor i6 (aV 3) (aV 4)) <| sB (.bin .and i6 (aV 5) (aI 255)) <| sB (.len (aR 0 [i0])) <| sB (.cmp .lt i6 (aR 0 [i1,i0]) (aV 7)) <| sI (aV 8) (sB (.get (aR 0 [i0]) (aR 0 [i1,i0])) <| sB (.conv .u8 i6 (aV 9)) <| sB (.bin .add i6 (aV 6) (aV 10)) <| sB (.bin .and i6 (aV 11) (aI 255)) <| sB (.bin .add i6 (aR 0 [i1,i0]) (aI 1)) <| sR (tP tI (tP tI tI)) [(aV 12),(aV 13),(aV 2)]) <| sR (tP tI (tP tI tI)) [(aV 6),(aR 0 [i1,i0]),(aV 2)]
noncomputable def fn38 (x : sg38.p.den) : Option sg38.r.den := st38.den [] [] sg38.r [⟨sg38.p, x⟩]
theorem spec38 : CallSpec Try.prog sg38 fn38 := spec (ss := []) (an := an38) (stm := st38) follows (Specs.nil) (by kernel_rfl) (by kernel_rfl) (fun _ => rfl)
theorem eq38 : fn38 = Pf.spec_l01Byte := by kernel_rfl
-- spec.l01Below
def sg22 : Sig := ⟨22,22,[.iob 64 (tP (tS 5 (.int .u8)) (tP tI tI)),.val i0 tI],[.val i0 tI i1]⟩
def an22 : Ann := ⟨37,[],[],[],[],[],[]⟩
def st22 : Stm := sB (.cmp .le i6 (aR 0 [i1]) (aI 0)) <| sI (aV 1) (sR (tP tI (tP tI tI)) [(aI 0),(aR 0 [i0,i1,i0]),(aR 0 [i0,i1,i1])]) <| sB (.cmp .le i6 (aR 0 [i1]) (aI 256)) <| sI (aV 2) (sB (.call 38 [(aR 0 [i0,i0]),(aR 0 [i0,i1,i0]),(aR 0 [i0,i1,i1])]) <| sB (.rem i6 (aR 3 [i0]) (aR 0 [i1])) <| sR (tP tI (tP tI tI)) [(aV 4),(aR 3 [i1,i0]),(aR 3 [i1,i1])]) <| sB (.call 38 [(aR 0 [i0,i0]),(aR 0 [i0,i1,i0]),(aR 0 [i0,i1,i1])]) <| sB (.call 38 [(aR 0 [i0,i0]),(aR 3 [i1,i0]),(aR 3 [i1,i1])]) <| sB (.call 38 [(aR 0 [i0,i0]),(aR 4 [i1,i0]),(aR 4 [i1,i1])]) <| sB (.call 38 [(aR 0 [i0,i0]),(aR 5 [i1,i0]),(aR 5 [i1,i1])]) <| sB (.bin .mul i6 (aR 3 [i0]) (aI 16777216)) <| sB (.bin .mul i6 (aR 4 [i0]) (aI 65536)) <| sB (.bin .add i6 (aV 7) (aV 8)) <| sB (.bin .mul i6 (aR 5 [i0]) (aI 256)) <| sB (.bin .add i6 (aV 9) (aV 10)) <| sB (.bin .add i6 (aV 11) (aR 6 [i0])) <| sB (.rem i6 (aV 12) (aR 0 [i1])) <| sR (tP tI (tP tI tI)) [(aV 13),(aR 6 [i1,i0]),(aR 6 [i1,i1])]
noncomputable def fn22 (x : sg22.p.den) : Option sg22.r.den := st22.den [⟨sg38.key, sg38.p, sg38.r, fn38⟩] [] sg22.r [⟨sg22.p, x⟩]
theorem spec22 : CallSpec Try.prog sg22 fn22 := spec (ss := [sg38]) (an := an22) (stm := st22) follows (Specs.cons spec38 (Specs.nil) (by kernel_rfl)) (by kernel_rfl) (by kernel_rfl) (fun _ => rfl)
theorem eq22 : fn22 = Pf.spec_l01Below := by kernel_rfl
-- impl.DeviceOk
def sg25 : Sig := ⟨25,25,[.val i1 (tP tI (tP tI (tP tI tI)))],[.val i0 tB i1]⟩
def an25 : Ann := ⟨29,[],[],[],[],[],[]⟩
def st25 : Stm := sB (.call 26 [(aR 0 [i0]),(aI 3),(aI 6)]) <| sI (aV 1) (sB (.call 26 [(aR 0 [i1,i0]),(aI 3),(aI 6)]) <| sI (aV 2) (sB (.call 26 [(aR 0 [i1,i1,i0]),(aI 1),(aI 4)]) <| sI (aV 3) (sB (.cmp .eq i6 (aR 0 [i1,i1,i1]) (aI (-1))) <| sI (aV 4) (sR tB [(.bool true)]) <| sB (.bin .sub i6 (aR 0 [i0]) (aI 2)) <| sB (.call 26 [(aR 0 [i1,i1,i1]),(aI 1),(aV 5)]) <| sR tB [(aV 6)]) <| sR tB [(.bool false)]) <| sR tB [(.bool false)]) <| sR tB [(.bool false)]
noncomputable def fn25 (x : sg25.p.den) : Option sg25.r.den := st25.den [⟨sg26.key, sg26.p, sg26.r, fn26⟩] [] sg25.r [⟨sg25.p, x⟩]
theorem spec25 : CallSpec Try.prog sg25 fn25 := spec (ss := [sg26]) (an := an25) (stm := st25) follows (Specs.cons spec26 (Specs.nil) (by kernel_rfl)) (by kernel_rfl) (by kernel_rfl) (fun _ => rfl)
theorem eq25 : fn25 = Pf.impl_DeviceOk := by kernel_rfl
-- spec.DeviceOk
def sg31 : Sig := ⟨31,31,[.val i1 (tP tI (tP tI (tP tI tI)))],[.val i0 tB i1]⟩
def an31 : Ann := ⟨29,[],[],[],[],[],[]⟩
def st31 : Stm := sB (.call 23 [(aR 0 [i0]),(aI 3),(aI 6)]) <| sI (aV 1) (sB (.call 23 [(aR 0 [i1,i0]),(aI 3),(aI 6)]) <| sI (aV 2) (sB (.call 23 [(aR 0 [i1,i1,i0]),(aI 1),(aI 4)]) <| sI (aV 3) (sB (.cmp .eq i6 (aR 0 [i1,i1,i1]) (aI (-1))) <| sI (aV 4) (sR tB [(.bool true)]) <| sB (.bin .sub i6 (aR 0 [i0]) (aI 2)) <| sB (.call 23 [(aR 0 [i1,i1,i1]),(aI 1),(aV 5)]) <| sR tB [(aV 6)]) <| sR tB [(.bool false)]) <| sR tB [(.bool false)]) <| sR tB [(.bool false)]
noncomputable def fn31 (x : sg31.p.den) : Option sg31.r.den := st31.den [⟨sg23.key, sg23.p, sg23.r, fn23⟩] [] sg31.r [⟨sg31.p, x⟩]
theorem spec31 : CallSpec Try.prog sg31 fn31 := spec (ss := [sg23]) (an := an31) (stm := st31) follows (Specs.cons spec23 (Specs.nil) (by kernel_rfl)) (by kernel_rfl) (by kernel_rfl) (fun _ => rfl)
theorem eq31 : fn31 = Pf.spec_DeviceOk := by kernel_rfl
-- spec.l01PickInt
def sg20 : Sig := ⟨20,20,[.iob 64 (tP (tS 5 (.int .u8)) (tP tI tI)),.val i0 (tS 3 tI)],[.val i0 tI i1]⟩
def an20 : Ann := ⟨12,[],[],[],[],[],[]⟩
def st20 : Stm := sB (.len (aR 0 [i1])) <| sB (.call 22 [(aR 0 [i0,i0]),(aR 0 [i0,i1,i0]),(aR 0 [i0,i1,i1]),(aV 1)]) <| sB (.get (aR 0 [i1]) (aR 2 [i0])) <| sR (tP tI (tP tI tI)) [(aV 3),(aR 2 [i1,i0]),(aR 2 [i1,i1])]
noncomputable def fn20 (x : sg20.p.den) : Option sg20.r.den := st20.den [⟨sg22.key, sg22.p, sg22.r, fn22⟩] [] sg20.r [⟨sg20.p, x⟩]
theorem spec20 : CallSpec Try.prog sg20 fn20 := spec (ss := [sg22]) (an := an20) (stm := st20) follows (Specs.cons spec22 (Specs.nil) (by kernel_rfl)) (by kernel_rfl) (by kernel_rfl) (fun _ => rfl)
theorem eq20 : fn20 = Pf.spec_l01PickInt := by kernel_rfl
-- impl.TilesOf
def sg27 : Sig := ⟨27,27,[.val i1 (tP tI (tP tI (tP tI tI))),.val i0 tI],[.val i0 (tS 3 tI) i1]⟩
def an27 : Ann := ⟨29,[],[],[(0,(tP (tS 3 tI) tI),[(1,(sW (aR 0 [i1]))),(2,(.c (.h 0))),(5,(.c (.h 1))),(6,(sW (aR 3 [i1])))],[(.box 25 [(sV (aR 0 [i0,i0])),(sV (aR 0 [i0,i1,i0])),(sV (aR 0 [i0,i1,i1,i0])),(sV (aR 0 [i0,i1,i1,i1]))]),(.list 3 tI (aR 3 [i0]) i1 none)])],[],[],[]⟩
def st27 : Stm := sB (.call 25 [(aR 0 [i0,i0]),(aR 0 [i0,i1,i0]),(aR 0 [i0,i1,i1,i0]),(aR 0 [i0,i1,i1,i1])]) <| sB (.not (aV 1)) <| sI (aV 2) (sR (tS 3 tI) [(.nil (tS 3 tI))]) <| sL (tP (tS 3 tI) tI) [(.nil (tS 3 tI)),(aI 0)] <| sB (.bin .mul i6 (aR 0 [i0,i0]) (aR 0 [i0,i1,i0])) <| sB (.cmp .lt i6 (aR 3 [i1]) (aV 4)) <| sI (aV 5) (sB (.call 30 [(aR 0 [i0,i0]),(aR 0 [i0,i1,i0]),(aR 0 [i0,i1,i1,i0]),(aR 0 [i0,i1,i1,i1]),(aR 3 [i1])]) <| sB (.cmp .eq i6 (aV 6) (aR 0 [i1])) <| sI (aV 7) (sB (.lst 3 tI [[(aR 3 [i1])]]) <| sB (.app 8 (aR 3 [i0]) (aV 8)) <| sB (.bin .add i6 (aR 3 [i1]) (aI 1)) <| sN (tP (tS 3 tI) tI) [(aV 9),(aV 10)]) <| sB (.bin .add i6 (aR 3 [i1]) (aI 1)) <| sN (tP (tS 3 tI) tI) [(aR 3 [i0]),(aV 8)]) <| sU <| sR (tS 3 tI) [(aR 3 [i0])]
noncomputable def fn27 (x : sg27.p.den) : Option sg27.r.den := st27.den [⟨sg25.key, sg25.p, sg25.r, fn25⟩, ⟨sg30.key, sg30.p, sg30.r, fn30⟩] [] sg27.r [⟨sg27.p, x⟩]
theorem spec27 : CallSpec Try.prog sg27 fn27 := spec (ss := [sg25, sg30]) (an := an27) (stm := st27) follows (Specs.cons spec25 (Specs.cons spec30 (Specs.nil) (by kernel_rfl)) (by kernel_rfl)) (by kernel_rfl) (by kernel_rfl) (fun _ => rfl)
theorem eq27 : fn27 = Pf.impl_TilesOf := by kernel_rfl
-- impl.tileOk
def sg29 : Sig := ⟨29,29,[.val i1 (tP tI (tP tI (tP tI tI))),.val i0 tI],[.val i0 tB i1]⟩
def an29 : Ann := ⟨17,[],[],[],[],[],[]⟩
def st29 : Stm := sB (.call 25 [(aR 0 [i0,i0]),(aR 0 [i0,i1,i0]),(aR 0 [i0,i1,i1,i0]),(aR 0 [i0,i1,i1,i1])]) <| sI (aV 1) (sB (.bin .mul i6 (aR 0 [i0,i0]) (aR 0 [i0,i1,i0])) <| sB (.bin .sub i6 (aV 2) (aI 1)) <| sB (.call 26 [(aR 0 [i1]),(aI 0),(aV 3)]) <| sR tB [(aV 4)]) <| sR tB [(.bool false)]
noncomputable def fn29 (x : sg29.p.den) : Option sg29.r.den := st29.den [⟨sg25.key, sg25.p, sg25.r, fn25⟩, ⟨sg26.key, sg26.p, sg26.r, fn26⟩] [] sg29.r [⟨sg29.p, x⟩]
theorem spec29 : CallSpec Try.prog sg29 fn29 := spec (ss := [sg25, sg26]) (an := an29) (stm := st29) follows (Specs.cons spec25 (Specs.cons spec26 (Specs.nil) (by kernel_rfl)) (by kernel_rfl)) (by kernel_rfl) (by kernel_rfl) (fun _ => rfl)
theorem eq29 : fn29 = Pf.impl_tileOk := by kernel_rfl
-- spec.TileKind
def sg32 : Sig := ⟨32,32,[.val i1 (tP tI (tP tI (tP tI tI))),.val i0 tI],[.val i0 tI i1]⟩
def an32 : Ann := ⟨55,[],[],[],[],[],[]⟩
def st32 : Stm := sB (.call 31 [(aR 0 [i0,i0]),(aR 0 [i0,i1,i0]),(aR 0 [i0,i1,i1,i0]),(aR 0 [i0,i1,i1,i1])]) <| sB (.not (aV 1)) <| sI (aV 2) (sR tI [(aI (-1))]) <| sB (.cmp .lt i6 (aR 0 [i1]) (aI 0)) <| sI (aV 3) (sR tI [(aI (-1))]) <| sB (.bin .mul i6 (aR 0 [i0,i0]) (aR 0 [i0,i1,i0])) <| sB (.cmp .ge i6 (aR 0 [i1]) (aV 4)) <| sI (aV 5) (sR tI [(aI (-1))]) <| sB (.rem i6 (aR 0 [i1]) (aR 0 [i0,i0])) <| sB (.div i6 (aR 0 [i1]) (aR 0 [i0,i0])) <| sB (.cmp .eq i6 (aV 6) (aI 0)) <| sI (aV 8) (sR tI [(aI 0)]) <| sB (.cmp .eq i6 (aV 7) (aI 0)) <| sI (aV 9) (sR tI [(aI 0)]) <| sB (.bin .sub i6 (aR 0 [i0,i0]) (aI 1)) <| sB (.cmp .eq i6 (aV 6) (aV 10)) <| sI (aV 11) (sR tI [(aI 0)]) <| sB (.bin .sub i6 (aR 0 [i0,i1,i0]) (aI 1)) <| sB (.cmp .eq i6 (aV 7) (aV 12)) <| sI (aV 13) (sR tI [(aI 0)]) <| sB (.cmp .eq i6 (aV 6) (aR 0 [i0,i1,i1,i1])) <| sI (aV 14) (sR tI [(aI 2)]) <| sR tI [(aI 1)]
noncomputable def fn32 (x : sg32.p.den) : Option sg32.r.den := st32.den [⟨sg31.key, sg31.p, sg31.r, fn31⟩] [] sg32.r [⟨sg32.p, x⟩]
theorem spec32 : CallSpec Try.prog sg32 fn32 := spec (ss := [sg31]) (an := an32) (stm := st32) follows (Specs.cons spec31 (Specs.nil) (by kernel_rfl)) (by kernel_rfl) (by kernel_rfl) (fun _ => rfl)
theorem eq32 : fn32 = Pf.spec_TileKind := by kernel_rfl
-- spec.l01Once
def sg37 : Sig := ⟨37,37,[.iob 64 (tP (tS 5 (.int .u8)) (tP tI tI)),.val i0 tI],[.val i0 tB i1]⟩
def an37 : Ann := ⟨9,[],[],[],[],[],[]⟩
def st37 : Stm := sB (.call 22 [(aR 0 [i0,i0]),(aR 0 [i0,i1,i0]),(aR 0 [i0,i1,i1]),(aR 0 [i1])]) <| sB (.cmp .eq i6 (aR 1 [i0]) (aI 0)) <| sR (tP tB (tP tI tI)) [(aV 2),(aR 1 [i1,i0]),(aR 1 [i1,i1])]
noncomputable def fn37 (x : sg37.p.den) : Option sg37.r.den := st37.den [⟨sg22.key, sg22.p, sg22.r, fn22⟩] [] sg37.r [⟨sg37.p, x⟩]
theorem spec37 : CallSpec Try.prog sg37 fn37 := spec (ss := [sg22]) (an := an37) (stm := st37) follows (Specs.cons spec22 (Specs.nil) (by kernel_rfl)) (by kernel_rfl) (by kernel_rfl) (fun _ => rfl)
theorem eq37 : fn37 = Pf.spec_l01Once := by kernel_rfl
-- impl.NearestFree
def sg8 : Sig := ⟨8,8,[.val i1 (tP tI (tP tI (tP tI tI))),.val i0 tI,.val i0 tI,.val i0 tI,.val i0 (tS 3 tI)],[.val i0 tI i1]⟩
def an8 : Ann := ⟨74,[(8,[0,1,2,3,4,5,6,7,8,9,10,11,12,13,14,15])],[],[(0,(tP tI (tP tI tI)),[(2,(sW (aR 0 [i1,i1,i0]))),(3,(sW (aR 0 [i1,i1,i1,i0]))),(4,(.c (.s none (aR 0 [i1,i1,i1,i1])))),(5,(.c (.h 0))),(11,(sW (aR 9 [i1,i0]))),(12,(sW (aR 9 [i1,i1]))),(33,(.c (.h 1))),(34,(sW (aV 8))),(35,(sW (aR 9 [i0])))],[(.box 25 [(sV (aR 0 [i0,i0])),(sV (aR 0 [i0,i1,i0])),(sV (aR 0 [i0,i1,i1,i0])),(sV (aR 0 [i0,i1,i1,i1]))]),(.list 3 tI (aV 7) i1 none)])],[],[],[]⟩
def st8 : Stm := sB (.call 25 [(aR 0 [i0,i0]),(aR 0 [i0,i1,i0]),(aR 0 [i0,i1,i1,i0]),(aR 0 [i0,i1,i1,i1])]) <| sB (.not (aV 1)) <| sI (aV 2) (sR tI [(aI (-1))]) <| sB (.call 26 [(aR 0 [i1,i1,i0]),(aI 0),(aI 600)]) <| sB (.not (aV 3)) <| sI (aV 4) (sR tI [(aI (-1))]) <| sB (.call 26 [(aR 0 [i1,i1,i1,i0]),(aI 0),(aI 600)]) <| sB (.not (aV 5)) <| sI (aV 6) (sR tI [(aI (-1))]) <| sB (.call 27 [(aR 0 [i0,i0]),(aR 0 [i0,i1,i0]),(aR 0 [i0,i1,i1,i0]),(aR 0 [i0,i1,i1,i1]),(aR 0 [i1,i0])]) <| sB (.len (aV 7)) <| sL (tP tI (tP tI tI)) [(aI 0),(aI (-1)),(aI 0)] <| sB (.cmp .lt i6 (aR 9 [i0]) (aV 8)) <| sI (aV 10) (sB (.idx (aV 7) (aR 9 [i0])) <| sB (.get (aV 7) (aR 9 [i0])) <| sB (.call 28 [(aR 0 [i1,i1,i1,i1]),(aV 12)]) <| sI (aV 13) (sB (.bin .add i6 (aR 9 [i0]) (aI 1)) <| sN (tP tI (tP tI tI)) [(aV 14),(aR 9 [i1,i0]),(aR 9 [i1,i1])]) <| sB (.rem i6 (aV 12) (aR 0 [i0,i0])) <| sB (.bin .mul i6 (aI 100) (aV 14)) <| sB (.bin .sub i6 (aV 15) (aR 0 [i1,i1,i0])) <| sB (.div i6 (aV 12) (aR 0 [i0,i0])) <| sB (.bin .mul i6 (aI 100) (aV 17)) <| sB (.bin .sub i6 (aV 18) (aR 0 [i1,i1,i1,i0])) <| sB (.bin .mul i6 (aV 16) (aV 16)) <| sB (.bin .mul i6 (aV 19) (aV 19)) <| sB (.bin .add i6 (aV 20) (aV 21)) <| sB (.cmp .lt i6 (aR 9 [i1,i0]) (aI 0)) <| sI (aV 23) (sB (.bin .add i6 (aR 9 [i0]) (aI 1)) <| sN (tP tI (tP tI tI)) [(aV 24),(aV 12),(aV 22)]) <| sB (.cmp .lt i6 (aV 22) (aR 9 [i1,i1])) <| sI (aV 24) (sB (.bin .add i6 (aR 9 [i0]) (aI 1)) <| sN (tP tI (tP tI tI)) [(aV 25),(aV 12),(aV 22)]) <| sB (.bin .add i6 (aR 9 [i0]) (aI 1)) <| sN (tP tI (tP tI tI)) [(aV 25),(aR 9 [i1,i0]),(aR 9 [i1,i1])]) <| sU <| sR tI [(aR 9 [i1,i0])]
noncomputable def fn8 (x : sg8.p.den) : Option sg8.r.den := st8.den [⟨sg25.key, sg25.p, sg25.r, fn25⟩, ⟨sg26.key, sg26.p, sg26.r, fn26⟩, ⟨sg27.key, sg27.p, sg27.r, fn27⟩, ⟨sg28.key, sg28.p, sg28.r, fn28⟩] [] sg8.r [⟨sg8.p, x⟩]
theorem spec8 : CallSpec Try.prog sg8 fn8 := spec (ss := [sg25, sg26, sg27, sg28]) (an := an8) (stm := st8) follows (Specs.cons spec25 (Specs.cons spec26 (Specs.cons spec27 (Specs.cons spec28 (Specs.nil) (by kernel_rfl)) (by kernel_rfl)) (by kernel_rfl)) (by kernel_rfl)) (by kernel_rfl) (by kernel_rfl) (fun _ => rfl)
theorem eq8 : fn8 = Pf.impl_NearestFree := by kernel_rfl
-- impl.TileKind
def sg11 : Sig := ⟨11,11,[.val i1 (tP tI (tP tI (tP tI tI))),.val i0 tI],[.val i0 tI i1]⟩
def an11 : Ann := ⟨12,[],[],[],[],[],[]⟩
def st11 : Stm := sB (.call 29 [(aR 0 [i0,i0]),(aR 0 [i0,i1,i0]),(aR 0 [i0,i1,i1,i0]),(aR 0 [i0,i1,i1,i1]),(aR 0 [i1])]) <| sB (.not (aV 1)) <| sI (aV 2) (sR tI [(aI (-1))]) <| sB (.call 30 [(aR 0 [i0,i0]),(aR 0 [i0,i1,i0]),(aR 0 [i0,i1,i1,i0]),(aR 0 [i0,i1,i1,i1]),(aR 0 [i1])]) <| sR tI [(aV 3)]
noncomputable def fn11 (x : sg11.p.den) : Option sg11.r.den := st11.den [⟨sg29.key, sg29.p, sg29.r, fn29⟩, ⟨sg30.key, sg30.p, sg30.r, fn30⟩] [] sg11.r [⟨sg11.p, x⟩]
theorem spec11 : CallSpec Try.prog sg11 fn11 := spec (ss := [sg29, sg30]) (an := an11) (stm := st11) follows (Specs.cons spec29 (Specs.cons spec30 (Specs.nil) (by kernel_rfl)) (by kernel_rfl)) (by kernel_rfl) (by kernel_rfl) (fun _ => rfl)
theorem eq11 : fn11 = Pf.impl_TileKind := by kernel_rfl
-- spec.TilesOf
def sg12 : Sig := ⟨12,12,[.val i1 (tP tI (tP tI (tP tI tI))),.val i0 tI],[.val i0 (tS 3 tI) i0]⟩
def an12 : Ann := ⟨31,[],[],[(0,(tP tI (tS 3 tI)),[(1,(sW (aR 0 [i1]))),(2,(.c (.h 0))),(5,(.c (.h 1))),(6,(sW (aR 3 [i0])))],[(.box 25 [(sV (aR 0 [i0,i0])),(sV (aR 0 [i0,i1,i0])),(sV (aR 0 [i0,i1,i1,i0])),(sV (aR 0 [i0,i1,i1,i1]))]),(.list 3 tI (aR 3 [i1]) i0 none)])],[],[],[]⟩
def st12 : Stm := sB (.call 31 [(aR 0 [i0,i0]),(aR 0 [i0,i1,i0]),(aR 0 [i0,i1,i1,i0]),(aR 0 [i0,i1,i1,i1])]) <| sB (.not (aV 1)) <| sI (aV 2) (sR (tS 3 tI) [(.nil (tS 3 tI))]) <| sL (tP tI (tS 3 tI)) [(aI 0),(.nil (tS 3 tI))] <| sB (.bin .mul i6 (aR 0 [i0,i0]) (aR 0 [i0,i1,i0])) <| sB (.cmp .lt i6 (aR 3 [i0]) (aV 4)) <| sI (aV 5) (sB (.call 32 [(aR 0 [i0,i0]),(aR 0 [i0,i1,i0]),(aR 0 [i0,i1,i1,i0]),(aR 0 [i0,i1,i1,i1]),(aR 3 [i0])]) <| sB (.cmp .eq i6 (aV 6) (aR 0 [i1])) <| sI (aV 7) (sB (.lst 3 tI [[(aR 3 [i0])]]) <| sB (.app 8 (aR 3 [i1]) (aV 8)) <| sB (.bin .add i6 (aR 3 [i0]) (aI 1)) <| sN (tP tI (tS 3 tI)) [(aV 10),(aV 9)]) <| sB (.bin .add i6 (aR 3 [i0]) (aI 1)) <| sN (tP tI (tS 3 tI)) [(aV 8),(aR 3 [i1])]) <| sU <| sR (tS 3 tI) [(aR 3 [i1])]
noncomputable def fn12 (x : sg12.p.den) : Option sg12.r.den := st12.den [⟨sg31.key, sg31.p, sg31.r, fn31⟩, ⟨sg32.key, sg32.p, sg32.r, fn32⟩] [] sg12.r [⟨sg12.p, x⟩]
theorem spec12 : CallSpec Try.prog sg12 fn12 := spec (ss := [sg31, sg32]) (an := an12) (stm := st12) follows (Specs.cons spec31 (Specs.cons spec32 (Specs.nil) (by kernel_rfl)) (by kernel_rfl)) (by kernel_rfl) (by kernel_rfl) (fun _ => rfl)
theorem eq12 : fn12 = Pf.spec_TilesOf := by kernel_rfl
-- spec.l01Place
def sg21 : Sig := ⟨21,21,[.iob 64 (tP (tS 5 (.int .u8)) (tP tI tI)),.val i0 tI],[.val i0 tI i1]⟩
def an21 : Ann := ⟨16,[],[],[],[],[],[]⟩
def st21 : Stm := sB (.call 37 [(aR 0 [i0,i0]),(aR 0 [i0,i1,i0]),(aR 0 [i0,i1,i1]),(aI 15)]) <| sI (aR 1 [i0]) (sB (.bin .add i6 (aR 0 [i1]) (aI 1)) <| sB (.lst 3 tI [[(aI (-1))],[(aR 0 [i1])],[(aV 2)],[(aI 9223372036854775807)],[(aI (-9223372036854775808))]]) <| sB (.call 20 [(aR 0 [i0,i0]),(aR 1 [i1,i0]),(aR 1 [i1,i1]),(aV 3)]) <| sR (tP tI (tP tI tI)) [(aR 4 [i0]),(aR 4 [i1,i0]),(aR 4 [i1,i1])]) <| sB (.call 22 [(aR 0 [i0,i0]),(aR 1 [i1,i0]),(aR 1 [i1,i1]),(aR 0 [i1])]) <| sR (tP tI (tP tI tI)) [(aR 2 [i0]),(aR 2 [i1,i0]),(aR 2 [i1,i1])]
noncomputable def fn21 (x : sg21.p.den) : Option sg21.r.den := st21.den [⟨sg37.key, sg37.p, sg37.r, fn37⟩, ⟨sg20.key, sg20.p, sg20.r, fn20⟩, ⟨sg22.key, sg22.p, sg22.r, fn22⟩] [] sg21.r [⟨sg21.p, x⟩]
theorem spec21 : CallSpec Try.prog sg21 fn21 := spec (ss := [sg37, sg20, sg22]) (an := an21) (stm := st21) follows (Specs.cons spec37 (Specs.cons spec20 (Specs.cons spec22 (Specs.nil) (by kernel_rfl)) (by kernel_rfl)) (by kernel_rfl)) (by kernel_rfl) (by kernel_rfl) (fun _ => rfl)
theorem eq21 : fn21 = Pf.spec_l01Place := by kernel_rfl
-- spec.l26Device
def sg36 : Sig := ⟨36,36,[.iob 64 (tP (tS 5 (.int .u8)) (tP tI tI))],[.val i1 (tP tI (tP tI (tP tI tI))) i1]⟩
def an36 : Ann := ⟨24,[],[],[],[],[],[]⟩
def st36 : Stm := sB (.call 22 [(aR 0 [i0]),(aR 0 [i1,i0]),(aR 0 [i1,i1]),(aI 3)]) <| sB (.bin .add i6 (aI 3) (aR 1 [i0])) <| sB (.call 22 [(aR 0 [i0]),(aR 1 [i1,i0]),(aR 1 [i1,i1]),(aI 3)]) <| sB (.bin .add i6 (aI 3) (aR 3 [i0])) <| sB (.call 22 [(aR 0 [i0]),(aR 3 [i1,i0]),(aR 3 [i1,i1]),(aI 4)]) <| sB (.bin .add i6 (aI 1) (aR 5 [i0])) <| sB (.call 37 [(aR 0 [i0]),(aR 5 [i1,i0]),(aR 5 [i1,i1]),(aI 2)]) <| sI (aR 7 [i0]) (sB (.bin .sub i6 (aV 2) (aI 2)) <| sB (.call 22 [(aR 0 [i0]),(aR 7 [i1,i0]),(aR 7 [i1,i1]),(aV 8)]) <| sB (.bin .add i6 (aI 1) (aR 9 [i0])) <| sR (tP (tP tI (tP tI (tP tI tI))) (tP tI tI)) [(aV 2),(aV 4),(aV 6),(aV 10),(aR 9 [i1,i0]),(aR 9 [i1,i1])]) <| sR (tP (tP tI (tP tI (tP tI tI))) (tP tI tI)) [(aV 2),(aV 4),(aV 6),(aI (-1)),(aR 7 [i1,i0]),(aR 7 [i1,i1])]
noncomputable def fn36 (x : sg36.p.den) : Option sg36.r.den := st36.den [⟨sg22.key, sg22.p, sg22.r, fn22⟩, ⟨sg37.key, sg37.p, sg37.r, fn37⟩] [] sg36.r [⟨sg36.p, x⟩]
theorem spec36 : CallSpec Try.prog sg36 fn36 := spec (ss := [sg22, sg37]) (an := an36) (stm := st36) follows (Specs.cons spec22 (Specs.cons spec37 (Specs.nil) (by kernel_rfl)) (by kernel_rfl)) (by kernel_rfl) (by kernel_rfl) (fun _ => rfl)
theorem eq36 : fn36 = Pf.spec_l26Device := by kernel_rfl
-- spec.NearestFree
def sg7 : Sig := ⟨7,7,[.val i1 (tP tI (tP tI (tP tI tI))),.val i0 tI,.val i0 tI,.val i0 tI,.val i0 (tS 3 tI)],[.val i0 tI i1]⟩
def an7 : Ann := ⟨84,[(9,[0,1,2,3,4,5,6,7,8,9,10]),(10,[0,1,2,3,4,5,6,7,8,9,10])],[],[(0,(tP tI (tP tI tI)),[(2,(sW (aR 0 [i1,i1,i0]))),(3,(sW (aR 0 [i1,i1,i1,i0]))),(4,(.c (.s none (aR 0 [i1,i1,i1,i1])))),(5,(.c (.h 0))),(11,(.c (.h 1))),(12,(sW (aR 6 [i0]))),(13,(sW (aR 6 [i1,i0]))),(14,(sW (aR 6 [i1,i1])))],[(.box 25 [(sV (aR 0 [i0,i0])),(sV (aR 0 [i0,i1,i0])),(sV (aR 0 [i0,i1,i1,i0])),(sV (aR 0 [i0,i1,i1,i1]))]),(.list 3 tI (aV 5) i0 none)])],[],[],[]⟩
def st7 : Stm := sB (.call 23 [(aR 0 [i1,i1,i0]),(aI 0),(aI 600)]) <| sB (.not (aV 1)) <| sI (aV 2) (sR tI [(aI (-1))]) <| sB (.call 23 [(aR 0 [i1,i1,i1,i0]),(aI 0),(aI 600)]) <| sB (.not (aV 3)) <| sI (aV 4) (sR tI [(aI (-1))]) <| sB (.call 12 [(aR 0 [i0,i0]),(aR 0 [i0,i1,i0]),(aR 0 [i0,i1,i1,i0]),(aR 0 [i0,i1,i1,i1]),(aR 0 [i1,i0])]) <| sL (tP tI (tP tI tI)) [(aI (-1)),(aI 0),(aI 0)] <| sB (.len (aV 5)) <| sB (.cmp .lt i6 (aR 6 [i1,i1]) (aV 7)) <| sI (aV 8) (sB (.idx (aV 5) (aR 6 [i1,i1])) <| sB (.get (aV 5) (aR 6 [i1,i1])) <| sB (.rem i6 (aV 10) (aR 0 [i0,i0])) <| sB (.bin .mul i6 (aI 100) (aV 11)) <| sB (.bin .sub i6 (aV 12) (aR 0 [i1,i1,i0])) <| sB (.idx (aV 5) (aR 6 [i1,i1])) <| sB (.get (aV 5) (aR 6 [i1,i1])) <| sB (.div i6 (aV 15) (aR 0 [i0,i0])) <| sB (.bin .mul i6 (aI 100) (aV 16)) <| sB (.bin .sub i6 (aV 17) (aR 0 [i1,i1,i1,i0])) <| sB (.bin .mul i6 (aV 13) (aV 13)) <| sB (.bin .mul i6 (aV 18) (aV 18)) <| sB (.bin .add i6 (aV 19) (aV 20)) <| sB (.idx (aV 5) (aR 6 [i1,i1])) <| sB (.get (aV 5) (aR 6 [i1,i1])) <| sB (.call 24 [(aR 0 [i1,i1,i1,i1]),(aV 23)]) <| sB (.not (aV 24)) <| sI (aV 25) (sB (.cmp .lt i6 (aR 6 [i0]) (aI 0)) <| sI (aV 26) (sB (.idx (aV 5) (aR 6 [i1,i1])) <| sB (.get (aV 5) (aR 6 [i1,i1])) <| sB (.bin .add i6 (aR 6 [i1,i1]) (aI 1)) <| sN (tP tI (tP tI tI)) [(aV 28),(aV 21),(aV 29)]) <| sB (.cmp .lt i6 (aV 21) (aR 6 [i1,i0])) <| sI (aV 27) (sB (.idx (aV 5) (aR 6 [i1,i1])) <| sB (.get (aV 5) (aR 6 [i1,i1])) <| sB (.bin .add i6 (aR 6 [i1,i1]) (aI 1)) <| sN (tP tI (tP tI tI)) [(aV 29),(aV 21),(aV 30)]) <| sB (.bin .add i6 (aR 6 [i1,i1]) (aI 1)) <| sN (tP tI (tP tI tI)) [(aR 6 [i0]),(aR 6 [i1,i0]),(aV 28)]) <| sB (.bin .add i6 (aR 6 [i1,i1]) (aI 1)) <| sN (tP tI (tP tI tI)) [(aR 6 [i0]),(aR 6 [i1,i0]),(aV 26)]) <| sU <| sR tI [(aR 6 [i0])]
noncomputable def fn7 (x : sg7.p.den) : Option sg7.r.den := st7.den [⟨sg23.key, sg23.p, sg23.r, fn23⟩, ⟨sg12.key, sg12.p, sg12.r, fn12⟩, ⟨sg24.key, sg24.p, sg24.r, fn24⟩] [] sg7.r [⟨sg7.p, x⟩]
theorem spec7 : CallSpec Try.prog sg7 fn7 := spec (ss := [sg23, sg12, sg24]) (an := an7) (stm := st7) follows (Specs.cons spec23 (Specs.cons spec12 (Specs.cons spec24 (Specs.nil) (by kernel_rfl)) (by kernel_rfl)) (by kernel_rfl)) (by kernel_rfl) (by kernel_rfl) (fun _ => rfl)
theorem eq7 : fn7 = Pf.spec_NearestFree := by kernel_rfl
-- spec.l26Any
def sg19 : Sig := ⟨19,19,[.iob 64 (tP (tS 5 (.int .u8)) (tP tI tI))],[.val i1 (tP tI (tP tI (tP tI tI))) i1]⟩
def an19 : Ann := ⟨33,[],[],[],[],[],[]⟩
def st19 : Stm := sB (.call 36 [(aR 0 [i0]),(aR 0 [i1,i0]),(aR 0 [i1,i1])]) <| sB (.call 22 [(aR 0 [i0]),(aR 1 [i1,i0]),(aR 1 [i1,i1]),(aI 16)]) <| sB (.cmp .eq i6 (aR 2 [i0]) (aI 0)) <| sI (aV 3) (sB (.lst 3 tI [[(aI (-1))],[(aI 0)],[(aI 2)],[(aI 6)],[(aI 7)],[(aI 9223372036854775807)]]) <| sB (.call 20 [(aR 0 [i0]),(aR 2 [i1,i0]),(aR 2 [i1,i1]),(aV 4)]) <| sR (tP (tP tI (tP tI (tP tI tI))) (tP tI tI)) [(aR 5 [i0]),(aR 1 [i0,i1,i0]),(aR 1 [i0,i1,i1,i0]),(aR 1 [i0,i1,i1,i1]),(aR 5 [i1,i0]),(aR 5 [i1,i1])]) <| sB (.cmp .eq i6 (aR 2 [i0]) (aI 1)) <| sI (aV 4) (sB (.lst 3 tI [[(aI (-1))],[(aI 0)],[(aI 2)],[(aI 6)],[(aI 7)],[(aI 9223372036854775807)]]) <| sB (.call 20 [(aR 0 [i0]),(aR 2 [i1,i0]),(aR 2 [i1,i1]),(aV 5)]) <| sR (tP (tP tI (tP tI (tP tI tI))) (tP tI tI)) [(aR 1 [i0,i0]),(aR 6 [i0]),(aR 1 [i0,i1,i1,i0]),(aR 1 [i0,i1,i1,i1]),(aR 6 [i1,i0]),(aR 6 [i1,i1])]) <| sB (.cmp .eq i6 (aR 2 [i0]) (aI 2)) <| sI (aV 5) (sB (.lst 3 tI [[(aI (-1))],[(aI 0)],[(aI 5)]]) <| sB (.call 20 [(aR 0 [i0]),(aR 2 [i1,i0]),(aR 2 [i1,i1]),(aV 6)]) <| sR (tP (tP tI (tP tI (tP tI tI))) (tP tI tI)) [(aR 1 [i0,i0]),(aR 1 [i0,i1,i0]),(aR 7 [i0]),(aR 1 [i0,i1,i1,i1]),(aR 7 [i1,i0]),(aR 7 [i1,i1])]) <| sB (.cmp .eq i6 (aR 2 [i0]) (aI 3)) <| sI (aV 6) (sB (.lst 3 tI [[(aI (-2))],[(aI 0)],[(aI 5)],[(aI (-9223372036854775808))]]) <| sB (.call 20 [(aR 0 [i0]),(aR 2 [i1,i0]),(aR 2 [i1,i1]),(aV 7)]) <| sR (tP (tP tI (tP tI (tP tI tI))) (tP tI tI)) [(aR 1 [i0,i0]),(aR 1 [i0,i1,i0]),(aR 1 [i0,i1,i1,i0]),(aR 8 [i0]),(aR 8 [i1,i0]),(aR 8 [i1,i1])]) <| sR (tP (tP tI (tP tI (tP tI tI))) (tP tI tI)) [(aR 1 [i0,i0]),(aR 1 [i0,i1,i0]),(aR 1 [i0,i1,i1,i0]),(aR 1 [i0,i1,i1,i1]),(aR 2 [i1,i0]),(aR 2 [i1,i1])]
noncomputable def fn19 (x : sg19.p.den) : Option sg19.r.den := st19.den [⟨sg36.key, sg36.p, sg36.r, fn36⟩, ⟨sg22.key, sg22.p, sg22.r, fn22⟩, ⟨sg20.key, sg20.p, sg20.r, fn20⟩] [] sg19.r [⟨sg19.p, x⟩]
theorem spec19 : CallSpec Try.prog sg19 fn19 := spec (ss := [sg36, sg22, sg20]) (an := an19) (stm := st19) follows (Specs.cons spec36 (Specs.cons spec22 (Specs.cons spec20 (Specs.nil) (by kernel_rfl)) (by kernel_rfl)) (by kernel_rfl)) (by kernel_rfl) (by kernel_rfl) (fun _ => rfl)
theorem eq19 : fn19 = Pf.spec_l26Any := by kernel_rfl
-- spec.DrawNearestFree
def sg6 : Sig := ⟨6,6,[.val i0 (tS 5 (.int .u8))],[.val i1 (tP tI (tP tI (tP tI tI))) i0,.val i0 tI i0,.val i0 tI i0,.val i0 tI i0,.val i0 (tS 3 tI) i0]⟩
def an6 : Ann := ⟨42,[],[],[(0,(tP tI (tP tI (tP tI (tS 3 tI)))),[(2,(.c (.h 0))),(7,(.c (.h 2))),(8,(.c (.h 3))),(9,(sW (aR 4 [i0]))),(10,(sW (aR 5 [i0]))),(11,(sW (aR 6 [i0]))),(12,(.c (.h 5))),(13,(sW (aR 8 [i0])))],[(.box 25 [(sV (aI 0)),(sV (aI 0)),(sV (aI 0)),(sV (aI 0))]),.dead,(.box 64 [(.tk 1 (aV 0)),(sV (aR 8 [i1,i0])),(sV (aR 8 [i1,i1,i0]))]),(.box 25 [(sV (aR 2 [i0,i0])),(sV (aR 2 [i0,i1,i0])),(sV (aR 2 [i0,i1,i1,i0])),(sV (aR 2 [i0,i1,i1,i1]))]),.dead,(.list 3 tI (aR 8 [i1,i1,i1]) i0 none)])],[],[],[]⟩
def st6 : Stm := sB (.call 18 [(aV 0)]) <| sB (.call 19 [(aV 0),(aR 1 [i0]),(aR 1 [i1])]) <| sB (.lst 3 tI [[(aI 0)],[(aI 1)],[(aI 1)],[(aI 1)],[(aI 2)],[(aI 3)]]) <| sB (.call 20 [(aV 0),(aR 2 [i1,i0]),(aR 2 [i1,i1]),(aV 3)]) <| sB (.call 21 [(aV 0),(aR 4 [i1,i0]),(aR 4 [i1,i1]),(aI 400)]) <| sB (.call 21 [(aV 0),(aR 5 [i1,i0]),(aR 5 [i1,i1]),(aI 400)]) <| sB (.call 22 [(aV 0),(aR 6 [i1,i0]),(aR 6 [i1,i1]),(aI 8)]) <| sL (tP tI (tP tI (tP tI (tS 3 tI)))) [(aR 7 [i0]),(aR 7 [i1,i0]),(aR 7 [i1,i1]),(.nil (tS 3 tI))] <| sB (.cmp .gt i6 (aR 8 [i0]) (aI 0)) <| sI (aV 9) (sB (.call 22 [(aV 0),(aR 8 [i1,i0]),(aR 8 [i1,i1,i0]),(aI 20)]) <| sB (.lst 3 tI [[(aR 10 [i0])]]) <| sB (.app 8 (aR 8 [i1,i1,i1]) (aV 11)) <| sB (.bin .sub i6 (aR 8 [i0]) (aI 1)) <| sN (tP tI (tP tI (tP tI (tS 3 tI)))) [(aV 13),(aR 10 [i1,i0]),(aR 10 [i1,i1]),(aV 12)]) <| sU <| sR (tP (tP tI (tP tI (tP tI tI))) (tP tI (tP tI (tP tI (tS 3 tI))))) [(aR 2 [i0,i0]),(aR 2 [i0,i1,i0]),(aR 2 [i0,i1,i1,i0]),(aR 2 [i0,i1,i1,i1]),(aR 4 [i0]),(aR 5 [i0]),(aR 6 [i0]),(aR 8 [i1,i1,i1])]
noncomputable def fn6 (x : sg6.p.den) : Option sg6.r.den := st6.den [⟨sg18.key, sg18.p, sg18.r, fn18⟩, ⟨sg19.key, sg19.p, sg19.r, fn19⟩, ⟨sg20.key, sg20.p, sg20.r, fn20⟩, ⟨sg21.key, sg21.p, sg21.r, fn21⟩, ⟨sg22.key, sg22.p, sg22.r, fn22⟩] [] sg6.r [⟨sg6.p, x⟩]
theorem spec6 : CallSpec Try.prog sg6 fn6 := spec (ss := [sg18, sg19, sg20, sg21, sg22]) (an := an6) (stm := st6) follows (Specs.cons spec18 (Specs.cons spec19 (Specs.cons spec20 (Specs.cons spec21 (Specs.cons spec22 (Specs.nil) (by kernel_rfl)) (by kernel_rfl)) (by kernel_rfl)) (by kernel_rfl)) (by kernel_rfl)) (by kernel_rfl) (by kernel_rfl) (fun _ => rfl)
theorem eq6 : fn6 = Pf.spec_DrawNearestFree := by kernel_rfl
-- laws.FnNearest
def sg3 : Sig := ⟨3,3,[.val i0 (tS 5 (.int .u8))],[.val i0 tB i1]⟩
def an3 : Ann := ⟨142,[(10,[0,1,2,3,4,5,6,7,8,9,10,11,12,13,14,15,16,17,18,19,20,21,22,23,24,25,26,27,28,29,30,31]),(16,[0,1,2,3,4,5,6,7,8,9,10,11,12,13,14,15,16,17,18,19,20,21,22,23,24,25,26,27,28,29,30,31,32,33,34,35,36,37,38])],[],[(0,tI,[(3,(.c (.h 1))),(5,(sW (aR 2 [i1,i1,i0]))),(6,(sW (aR 2 [i1,i1,i1,i0]))),(7,(.c (.h 0))),(10,(sW (aV 24))),(11,(.c (.h 2))),(12,(sW (aV 26)))],[(.list 3 tI (aR 2 [i1,i1,i1,i1]) i0 none),(.box 25 [(sV (aR 2 [i0,i0])),(sV (aR 2 [i0,i1,i0])),(sV (aR 2 [i0,i1,i1,i0])),(sV (aR 2 [i0,i1,i1,i1]))]),(.list 3 tI (aV 25) i0 none)])],[],[],[]⟩
def st3 : Stm := sB (.call 5 [(aV 0)]) <| sI (aV 1) (sR tB [(.bool true)]) <| sB (.call 6 [(aV 0)]) <| sB (.call 7 [(aR 2 [i0,i0]),(aR 2 [i0,i1,i0]),(aR 2 [i0,i1,i1,i0]),(aR 2 [i0,i1,i1,i1]),(aR 2 [i1,i0]),(aR 2 [i1,i1,i0]),(aR 2 [i1,i1,i1,i0]),(aR 2 [i1,i1,i1,i1])]) <| sB (.call 8 [(aR 2 [i0,i0]),(aR 2 [i0,i1,i0]),(aR 2 [i0,i1,i1,i0]),(aR 2 [i0,i1,i1,i1]),(aR 2 [i1,i0]),(aR 2 [i1,i1,i0]),(aR 2 [i1,i1,i1,i0]),(aR 2 [i1,i1,i1,i1])]) <| sB (.cmp .lt i6 (aV 3) (aI 0)) <| sI (aV 5) (sB (.cmp .eq i6 (aV 4) (aI (-1))) <| sI (aV 6) (sB (.call 9 []) <| sB (.call 8 [(aR 7 [i0]),(aR 7 [i1,i0]),(aR 7 [i1,i1,i0]),(aR 7 [i1,i1,i1]),(aI 0),(aI 0),(aI 0),(.nil (tS 3 tI))]) <| sB (.cmp .eq i6 (aV 8) (aI 0)) <| sR tB [(aV 9)]) <| sR tB [(.bool false)]) <| sB (.cmp .lt i6 (aV 4) (aI 0)) <| sI (aV 6) (sR tB [(.bool false)]) <| sB (.call 10 [(aR 2 [i1,i1,i1,i1]),(aV 4)]) <| sI (aV 7) (sR tB [(.bool false)]) <| sB (.call 11 [(aR 2 [i0,i0]),(aR 2 [i0,i1,i0]),(aR 2 [i0,i1,i1,i0]),(aR 2 [i0,i1,i1,i1]),(aV 4)]) <| sB (.cmp .ne i6 (aV 8) (aR 2 [i1,i0])) <| sI (aV 9) (sR tB [(.bool false)]) <| sB (.rem i6 (aV 4) (aR 2 [i0,i0])) <| sB (.bin .mul i6 (aI 100) (aV 10)) <| sB (.bin .sub i6 (aV 11) (aR 2 [i1,i1,i0])) <| sB (.rem i6 (aV 4) (aR 2 [i0,i0])) <| sB (.bin .mul i6 (aI 100) (aV 13)) <| sB (.bin .sub i6 (aV 14) (aR 2 [i1,i1,i0])) <| sB (.bin .mul i6 (aV 12) (aV 15)) <| sB (.div i6 (aV 4) (aR 2 [i0,i0])) <| sB (.bin .mul i6 (aI 100) (aV 17)) <| sB (.bin .sub i6 (aV 18) (aR 2 [i1,i1,i1,i0])) <| sB (.div i6 (aV 4) (aR 2 [i0,i0])) <| sB (.bin .mul i6 (aI 100) (aV 20)) <| sB (.bin .sub i6 (aV 21) (aR 2 [i1,i1,i1,i0])) <| sB (.bin .mul i6 (aV 19) (aV 22)) <| sB (.bin .add i6 (aV 16) (aV 23)) <| sB (.call 12 [(aR 2 [i0,i0]),(aR 2 [i0,i1,i0]),(aR 2 [i0,i1,i1,i0]),(aR 2 [i0,i1,i1,i1]),(aR 2 [i1,i0])]) <| sL tI [(aI 0)] <| sB (.len (aV 25)) <| sB (.cmp .lt i6 (aV 26) (aV 27)) <| sI (aV 28) (sB (.idx (aV 25) (aV 26)) <| sB (.get (aV 25) (aV 26)) <| sB (.call 10 [(aR 2 [i1,i1,i1,i1]),(aV 30)]) <| sB (.not (aV 31)) <| sI (aV 32) (sB (.rem i6 (aV 30) (aR 2 [i0,i0])) <| sB (.bin .mul i6 (aI 100) (aV 33)) <| sB (.bin .sub i6 (aV 34) (aR 2 [i1,i1,i0])) <| sB (.rem i6 (aV 30) (aR 2 [i0,i0])) <| sB (.bin .mul i6 (aI 100) (aV 36)) <| sB (.bin .sub i6 (aV 37) (aR 2 [i1,i1,i0])) <| sB (.bin .mul i6 (aV 35) (aV 38)) <| sB (.div i6 (aV 30) (aR 2 [i0,i0])) <| sB (.bin .mul i6 (aI 100) (aV 40)) <| sB (.bin .sub i6 (aV 41) (aR 2 [i1,i1,i1,i0])) <| sB (.div i6 (aV 30) (aR 2 [i0,i0])) <| sB (.bin .mul i6 (aI 100) (aV 43)) <| sB (.bin .sub i6 (aV 44) (aR 2 [i1,i1,i1,i0])) <| sB (.bin .mul i6 (aV 42) (aV 45)) <| sB (.bin .add i6 (aV 39) (aV 46)) <| sB (.cmp .lt i6 (aV 47) (aV 24)) <| sI (aV 48) (sU <| sR tB [(.bool false)]) <| sB (.bin .add i6 (aV 26) (aI 1)) <| sN tI [(aV 49)]) <| sB (.bin .add i6 (aV 26) (aI 1)) <| sN tI [(aV 33)]) <| sU <| sR tB [(.bool true)]
noncomputable def fn3 (x : sg3.p.den) : Option sg3.r.den := st3.den [⟨sg5.key, sg5.p, sg5.r, fn5⟩, ⟨sg6.key, sg6.p, sg6.r, fn6⟩, ⟨sg7.key, sg7.p, sg7.r, fn7⟩, ⟨sg8.key, sg8.p, sg8.r, fn8⟩, ⟨sg9.key, sg9.p, sg9.r, fn9⟩, ⟨sg10.key, sg10.p, sg10.r, fn10⟩, ⟨sg11.key, sg11.p, sg11.r, fn11⟩, ⟨sg12.key, sg12.p, sg12.r, fn12⟩] [] sg3.r [⟨sg3.p, x⟩]
theorem spec3 : CallSpec Try.prog sg3 fn3 := spec (ss := [sg5, sg6, sg7, sg8, sg9, sg10, sg11, sg12]) (an := an3) (stm := st3) follows (Specs.cons spec5 (Specs.cons spec6 (Specs.cons spec7 (Specs.cons spec8 (Specs.cons spec9 (Specs.cons spec10 (Specs.cons spec11 (Specs.cons spec12 (Specs.nil) (by kernel_rfl)) (by kernel_rfl)) (by kernel_rfl)) (by kernel_rfl)) (by kernel_rfl)) (by kernel_rfl)) (by kernel_rfl)) (by kernel_rfl)) (by kernel_rfl) (by kernel_rfl) (fun _ => rfl)
theorem eq3 : fn3 = Pf.laws_FnNearest := by kernel_rfl
end Go.Proofs.Ytnlcnnmdalgibaa
