/-
  Own work, printed by my tool: signatures, annotations and the compiled statements of the functions that the law reaches; each one's contract.
-/
import Derived.Test.YtfkaffmfhnkebaaD
import Derived.Test.YtfkaffmfhnkebaaProg
namespace Go.Proofs.Ytfkaffmfhnkebaa
open Go Go.Pu Go.Proofs
theorem follows : Try.prog.follows .mixedOrders = true := by kernel_rfl
-- laws.toDevice
def sg26 : Sig := ⟨26,26,[.val i1 (tP tI (tP tI (tP tI tI)))],[.val i1 (tP tI (tP tI (tP tI tI))) i1]⟩
def an26 : Ann := ⟨17,[],[],[],[],[]⟩
def st26 : Stm := sR (tP tI (tP tI (tP tI tI))) [(aR 0 [i0]),(aR 0 [i1,i0]),(aR 0 [i1,i1,i0]),(aR 0 [i1,i1,i1])]
noncomputable def fn26 (x : sg26.p.den) : Option sg26.r.den := st26.den [] [] sg26.r [⟨sg26.p, x⟩]
theorem spec26 : CallSpec Try.prog sg26 fn26 := spec (ss := []) (an := an26) (stm := st26) follows (Specs.nil) (by kernel_rfl) (by kernel_rfl) (fun _ => rfl)
theorem eq26 : fn26 = Pf.laws_toDevice := by kernel_rfl
-- laws.eqIntS
def sg35 : Sig := ⟨35,35,[.val i0 (tS 3 tI),.val i0 (tS 3 tI)],[.val i0 tB i1]⟩
def an35 : Ann := ⟨26,[(6,[0,1,2,3,4,5,6,7,8])],[],[(0,tI,[(0,(.c (.s none (aR 0 [i0])))),(1,(.c (.s none (aR 0 [i1])))),(5,(sW (aV 4)))],[])],[],[]⟩
def st35 : Stm := sB (.len (aR 0 [i0])) <| sB (.len (aR 0 [i1])) <| sB (.cmp .ne i6 (aV 1) (aV 2)) <| sI (aV 3) (sR tB [(.bool false)]) <| sL tI [(aI 0)] <| sB (.len (aR 0 [i0])) <| sB (.cmp .lt i6 (aV 4) (aV 5)) <| sI (aV 6) (sB (.get (aR 0 [i0]) (aV 4)) <| sB (.get (aR 0 [i1]) (aV 4)) <| sB (.cmp .ne i6 (aV 7) (aV 8)) <| sI (aV 9) (sU <| sR tB [(.bool false)]) <| sB (.bin .add i6 (aV 4) (aI 1)) <| sN tI [(aV 10)]) <| sU <| sR tB [(.bool true)]
noncomputable def fn35 (x : sg35.p.den) : Option sg35.r.den := st35.den [] [] sg35.r [⟨sg35.p, x⟩]
theorem spec35 : CallSpec Try.prog sg35 fn35 := spec (ss := []) (an := an35) (stm := st35) follows (Specs.nil) (by kernel_rfl) (by kernel_rfl) (fun _ => rfl)
theorem eq35 : fn35 = Pf.laws_eqIntS := by kernel_rfl
-- laws.markIntS
def sg39 : Sig := ⟨39,39,[.own i0 (tS 3 tI) i1,.val i0 tI],[.val i0 tI i1]⟩
def an39 : Ann := ⟨19,[],[],[(0,(tP tI (tP tI (tS 3 tI))),[(0,(.c (.h 0))),(1,(sW (aR 1 [i0]))),(5,(sW (aR 1 [i1,i0])))],[(.list 3 tI (aR 1 [i1,i1]) i0 none)])],[],[]⟩
def st39 : Stm := sL (tP tI (tP tI (tS 3 tI))) [(aR 0 [i1]),(aI 0),(aR 0 [i0])] <| sB (.len (aR 1 [i1,i1])) <| sB (.cmp .lt i6 (aR 1 [i1,i0]) (aV 2)) <| sI (aV 3) (sB (.idx (aR 1 [i1,i1]) (aR 1 [i1,i0])) <| sB (.get (aR 1 [i1,i1]) (aR 1 [i1,i0])) <| sB (.mk tI [(aR 1 [i0])]) <| sB (.set (aR 1 [i1,i1]) (aR 1 [i1,i0]) (aV 6)) <| sB (.bin .add i6 (aR 1 [i0]) (aI 1)) <| sB (.bin .add i6 (aR 1 [i1,i0]) (aI 1)) <| sN (tP tI (tP tI (tS 3 tI))) [(aV 8),(aV 9),(aV 7)]) <| sU <| sR (tP tI (tS 3 tI)) [(aR 1 [i0]),(aR 1 [i1,i1])]
noncomputable def fn39 (x : sg39.p.den) : Option sg39.r.den := st39.den [] [] sg39.r [⟨sg39.p, x⟩]
theorem spec39 : CallSpec Try.prog sg39 fn39 := spec (ss := []) (an := an39) (stm := st39) follows (Specs.nil) (by kernel_rfl) (by kernel_rfl) (fun _ => rfl)
theorem eq39 : fn39 = Pf.laws_markIntS := by kernel_rfl
-- laws.heldIntS
def sg40 : Sig := ⟨40,40,[.val i0 (tS 3 tI),.val i0 tI],[.val i0 tI i1]⟩
def an40 : Ann := ⟨21,[],[],[(0,(tP tI tI),[(0,(.c (.s none (aR 0 [i0])))),(1,(sW (aR 1 [i0]))),(5,(sW (aR 1 [i1])))],[])],[],[]⟩
def st40 : Stm := sL (tP tI tI) [(aR 0 [i1]),(aI 0)] <| sB (.len (aR 0 [i0])) <| sB (.cmp .lt i6 (aR 1 [i1]) (aV 2)) <| sI (aV 3) (sB (.get (aR 0 [i0]) (aR 1 [i1])) <| sB (.cmp .ne i6 (aV 4) (aR 1 [i0])) <| sI (aV 5) (sU <| sR tI [(aI (-1))]) <| sB (.bin .add i6 (aR 1 [i0]) (aI 1)) <| sB (.bin .add i6 (aR 1 [i1]) (aI 1)) <| sN (tP tI tI) [(aV 6),(aV 7)]) <| sU <| sR tI [(aR 1 [i0])]
noncomputable def fn40 (x : sg40.p.den) : Option sg40.r.den := st40.den [] [] sg40.r [⟨sg40.p, x⟩]
theorem spec40 : CallSpec Try.prog sg40 fn40 := spec (ss := []) (an := an40) (stm := st40) follows (Specs.nil) (by kernel_rfl) (by kernel_rfl) (fun _ => rfl)
theorem eq40 : fn40 = Pf.laws_heldIntS := by kernel_rfl
-- spec.l27Per
def sg93 : Sig := ⟨93,93,[.val i1 (tP tI (tP tI (tP tI tI)))],[.val i0 tI i1]⟩
def an93 : Ann := ⟨7,[],[],[],[],[]⟩
def st93 : Stm := sB (.bin .mul i6 (aI 4) (aR 0 [i1,i1,i0])) <| sB (.bin .add i6 (aI 7) (aV 1)) <| sR tI [(aV 2)]
noncomputable def fn93 (x : sg93.p.den) : Option sg93.r.den := st93.den [] [] sg93.r [⟨sg93.p, x⟩]
theorem spec93 : CallSpec Try.prog sg93 fn93 := spec (ss := []) (an := an93) (stm := st93) follows (Specs.nil) (by kernel_rfl) (by kernel_rfl) (fun _ => rfl)
theorem eq93 : fn93 = Pf.spec_l27Per := by kernel_rfl
-- spec.InPins
def sg94 : Sig := ⟨94,94,[.val i0 tI],[.val i0 tI i1]⟩
def an94 : Ann := ⟨10,[],[],[],[],[]⟩
def st94 : Stm := sB (.cmp .eq i6 (aV 0) (aI 0)) <| sI (aV 1) (sR tI [(aI 1)]) <| sB (.cmp .eq i6 (aV 0) (aI 1)) <| sI (aV 2) (sR tI [(aI 5)]) <| sB (.cmp .eq i6 (aV 0) (aI 2)) <| sI (aV 3) (sR tI [(aI 4)]) <| sR tI [(aI 0)]
noncomputable def fn94 (x : sg94.p.den) : Option sg94.r.den := st94.den [] [] sg94.r [⟨sg94.p, x⟩]
theorem spec94 : CallSpec Try.prog sg94 fn94 := spec (ss := []) (an := an94) (stm := st94) follows (Specs.nil) (by kernel_rfl) (by kernel_rfl) (fun _ => rfl)
theorem eq94 : fn94 = Pf.spec_InPins := by kernel_rfl
-- spec.OutPins
def sg96 : Sig := ⟨96,96,[.val i0 tI],[.val i0 tI i1]⟩
def an96 : Ann := ⟨9,[],[],[],[],[]⟩
def st96 : Stm := sB (.cmp .eq i6 (aV 0) (aI 0)) <| sI (aV 1) (sI (aV 1) (sR tI [(aI 1)]) <| sB (.cmp .eq i6 (aV 0) (aI 1)) <| sI (aV 2) (sR tI [(aI 2)]) <| sR tI [(aI 0)]) <| sB (.cmp .eq i6 (aV 0) (aI 2)) <| sI (aV 2) (sR tI [(aI 1)]) <| sB (.cmp .eq i6 (aV 0) (aI 1)) <| sI (aV 3) (sR tI [(aI 2)]) <| sR tI [(aI 0)]
noncomputable def fn96 (x : sg96.p.den) : Option sg96.r.den := st96.den [] [] sg96.r [⟨sg96.p, x⟩]
theorem spec96 : CallSpec Try.prog sg96 fn96 := spec (ss := []) (an := an96) (stm := st96) follows (Specs.nil) (by kernel_rfl) (by kernel_rfl) (fun _ => rfl)
theorem eq96 : fn96 = Pf.spec_OutPins := by kernel_rfl
-- impl.inRange
def sg100 : Sig := ⟨100,100,[.val i0 tI,.val i0 tI,.val i0 tI],[.val i0 tB i1]⟩
def an100 : Ann := ⟨15,[],[],[],[],[]⟩
def st100 : Stm := sB (.cmp .ge i6 (aR 0 [i0]) (aR 0 [i1,i0])) <| sI (aV 1) (sB (.cmp .le i6 (aR 0 [i0]) (aR 0 [i1,i1])) <| sR tB [(aV 2)]) <| sR tB [(.bool false)]
noncomputable def fn100 (x : sg100.p.den) : Option sg100.r.den := st100.den [] [] sg100.r [⟨sg100.p, x⟩]
theorem spec100 : CallSpec Try.prog sg100 fn100 := spec (ss := []) (an := an100) (stm := st100) follows (Specs.nil) (by kernel_rfl) (by kernel_rfl) (fun _ => rfl)
theorem eq100 : fn100 = Pf.impl_inRange := by kernel_rfl
-- impl.InPins
def sg103 : Sig := ⟨103,103,[.val i0 tI],[.val i0 tI i1]⟩
def an103 : Ann := ⟨10,[],[],[],[],[]⟩
def st103 : Stm := sB (.cmp .eq i6 (aV 0) (aI 0)) <| sI (aV 1) (sR tI [(aI 1)]) <| sB (.cmp .eq i6 (aV 0) (aI 1)) <| sI (aV 2) (sR tI [(aI 5)]) <| sB (.cmp .eq i6 (aV 0) (aI 2)) <| sI (aV 3) (sR tI [(aI 4)]) <| sR tI [(aI 0)]
noncomputable def fn103 (x : sg103.p.den) : Option sg103.r.den := st103.den [] [] sg103.r [⟨sg103.p, x⟩]
theorem spec103 : CallSpec Try.prog sg103 fn103 := spec (ss := []) (an := an103) (stm := st103) follows (Specs.nil) (by kernel_rfl) (by kernel_rfl) (fun _ => rfl)
theorem eq103 : fn103 = Pf.impl_InPins := by kernel_rfl
-- impl.tileKind
def sg104 : Sig := ⟨104,104,[.val i1 (tP tI (tP tI (tP tI tI))),.val i0 tI],[.val i0 tI i1]⟩
def an104 : Ann := ⟨41,[(1,[0,1,2,3,4,5,6,7,8,9])],[],[],[],[]⟩
def st104 : Stm := sB (.rem i6 (aR 0 [i1]) (aR 0 [i0,i0])) <| sB (.div i6 (aR 0 [i1]) (aR 0 [i0,i0])) <| sB (.cmp .eq i6 (aV 1) (aI 0)) <| sI (aV 3) (sR tI [(aI 0)]) <| sB (.bin .sub i6 (aR 0 [i0,i0]) (aI 1)) <| sB (.cmp .eq i6 (aV 1) (aV 4)) <| sI (aV 5) (sR tI [(aI 0)]) <| sB (.cmp .eq i6 (aV 2) (aI 0)) <| sI (aV 6) (sR tI [(aI 0)]) <| sB (.bin .sub i6 (aR 0 [i0,i1,i0]) (aI 1)) <| sB (.cmp .eq i6 (aV 2) (aV 7)) <| sI (aV 8) (sR tI [(aI 0)]) <| sB (.cmp .eq i6 (aV 1) (aR 0 [i0,i1,i1,i1])) <| sI (aV 9) (sR tI [(aI 2)]) <| sR tI [(aI 1)]
noncomputable def fn104 (x : sg104.p.den) : Option sg104.r.den := st104.den [] [] sg104.r [⟨sg104.p, x⟩]
theorem spec104 : CallSpec Try.prog sg104 fn104 := spec (ss := []) (an := an104) (stm := st104) follows (Specs.nil) (by kernel_rfl) (by kernel_rfl) (fun _ => rfl)
theorem eq104 : fn104 = Pf.impl_tileKind := by kernel_rfl
-- impl.OutPins
def sg105 : Sig := ⟨105,105,[.val i0 tI],[.val i0 tI i1]⟩
def an105 : Ann := ⟨9,[],[],[],[],[]⟩
def st105 : Stm := sB (.cmp .eq i6 (aV 0) (aI 0)) <| sI (aV 1) (sI (aV 1) (sR tI [(aI 1)]) <| sB (.cmp .eq i6 (aV 0) (aI 1)) <| sI (aV 2) (sR tI [(aI 2)]) <| sR tI [(aI 0)]) <| sB (.cmp .eq i6 (aV 0) (aI 2)) <| sI (aV 2) (sR tI [(aI 1)]) <| sB (.cmp .eq i6 (aV 0) (aI 1)) <| sI (aV 3) (sR tI [(aI 2)]) <| sR tI [(aI 0)]
noncomputable def fn105 (x : sg105.p.den) : Option sg105.r.den := st105.den [] [] sg105.r [⟨sg105.p, x⟩]
theorem spec105 : CallSpec Try.prog sg105 fn105 := spec (ss := []) (an := an105) (stm := st105) follows (Specs.nil) (by kernel_rfl) (by kernel_rfl) (fun _ => rfl)
theorem eq105 : fn105 = Pf.impl_OutPins := by kernel_rfl
-- impl.wireLength
def sg108 : Sig := ⟨108,108,[.val i0 tI],[.val i0 tI i1]⟩
def an108 : Ann := ⟨6,[],[],[],[],[]⟩
def st108 : Stm := sB (.rem i6 (aV 0) (aI 2)) <| sB (.bin .add i6 (aI 1) (aV 1)) <| sR tI [(aV 2)]
noncomputable def fn108 (x : sg108.p.den) : Option sg108.r.den := st108.den [] [] sg108.r [⟨sg108.p, x⟩]
theorem spec108 : CallSpec Try.prog sg108 fn108 := spec (ss := []) (an := an108) (stm := st108) follows (Specs.nil) (by kernel_rfl) (by kernel_rfl) (fun _ => rfl)
theorem eq108 : fn108 = Pf.impl_wireLength := by kernel_rfl
-- spec.l01In
def sg125 : Sig := ⟨125,125,[.val i0 tI,.val i0 tI,.val i0 tI],[.val i0 tB i1]⟩
def an125 : Ann := ⟨15,[],[],[],[],[]⟩
def st125 : Stm := sB (.cmp .ge i6 (aR 0 [i0]) (aR 0 [i1,i0])) <| sI (aV 1) (sB (.cmp .le i6 (aR 0 [i0]) (aR 0 [i1,i1])) <| sR tB [(aV 2)]) <| sR tB [(.bool false)]
noncomputable def fn125 (x : sg125.p.den) : Option sg125.r.den := st125.den [] [] sg125.r [⟨sg125.p, x⟩]
theorem spec125 : CallSpec Try.prog sg125 fn125 := spec (ss := []) (an := an125) (stm := st125) follows (Specs.nil) (by kernel_rfl) (by kernel_rfl) (fun _ => rfl)
theorem eq125 : fn125 = Pf.spec_l01In := by kernel_rfl
-- impl.RowCut$1
def sg131 : Sig := ⟨131,131,[.val i0 tI,.ptr (tP tI (tP tI (tP tI tI))),.ptr tI],[.val i0 tB i1]⟩
def an131 : Ann := ⟨11,[(1,[0,1,2,3,4,5,6])],[],[],[],[]⟩
def st131 : Stm := sB (.div i6 (aR 0 [i0]) (aR 0 [i1,i0,i0])) <| sB (.cmp .le i6 (aV 1) (aR 0 [i1,i1])) <| sR tB [(aV 2)]
noncomputable def fn131 (x : sg131.p.den) : Option sg131.r.den := st131.den [] [] sg131.r [⟨sg131.p, x⟩]
theorem spec131 : CallSpec Try.prog sg131 fn131 := spec (ss := []) (an := an131) (stm := st131) follows (Specs.nil) (by kernel_rfl) (by kernel_rfl) (fun _ => rfl)
theorem eq131 : fn131 = Pf.impl_RowCut_cl1 := by kernel_rfl
-- impl.perTile
def sg160 : Sig := ⟨160,160,[.val i1 (tP tI (tP tI (tP tI tI)))],[.val i0 tI i1]⟩
def an160 : Ann := ⟨7,[],[],[],[],[]⟩
def st160 : Stm := sB (.bin .mul i6 (aI 4) (aR 0 [i1,i1,i0])) <| sB (.bin .add i6 (aI 7) (aV 1)) <| sR tI [(aV 2)]
noncomputable def fn160 (x : sg160.p.den) : Option sg160.r.den := st160.den [] [] sg160.r [⟨sg160.p, x⟩]
theorem spec160 : CallSpec Try.prog sg160 fn160 := spec (ss := []) (an := an160) (stm := st160) follows (Specs.nil) (by kernel_rfl) (by kernel_rfl) (fun _ => rfl)
theorem eq160 : fn160 = Pf.impl_perTile := by kernel_rfl
-- spec.l27Wire
def sg97 : Sig := ⟨97,97,[.val i1 (tP tI (tP tI (tP tI tI))),.val i0 tI],[.val i0 tI i1,.val i0 tI i1]⟩
def an97 : Ann := ⟨20,[(2,[0,1,2,3,4,5,6,7,8,9])],[],[],[],[]⟩
def st97 : Stm := sB (.call 93 [(aR 0 [i0,i0]),(aR 0 [i0,i1,i0]),(aR 0 [i0,i1,i1,i0]),(aR 0 [i0,i1,i1,i1])]) <| sB (.rem i6 (aR 0 [i1]) (aV 1)) <| sB (.bin .sub i6 (aV 2) (aI 7)) <| sB (.div i6 (aV 3) (aR 0 [i0,i1,i1,i0])) <| sB (.rem i6 (aV 3) (aR 0 [i0,i1,i1,i0])) <| sR (tP tI tI) [(aV 4),(aV 5)]
noncomputable def fn97 (x : sg97.p.den) : Option sg97.r.den := st97.den [⟨sg93.key, sg93.p, sg93.r, fn93⟩] [] sg97.r [⟨sg97.p, x⟩]
theorem spec97 : CallSpec Try.prog sg97 fn97 := spec (ss := [sg93]) (an := an97) (stm := st97) follows (Specs.cons spec93 (Specs.nil) (by kernel_rfl)) (by kernel_rfl) (by kernel_rfl) (fun _ => rfl)
theorem eq97 : fn97 = Pf.spec_l27Wire := by kernel_rfl
-- impl.DeviceOk
def sg99 : Sig := ⟨99,99,[.val i1 (tP tI (tP tI (tP tI tI)))],[.val i0 tB i1]⟩
def an99 : Ann := ⟨29,[],[],[],[],[]⟩
def st99 : Stm := sB (.call 100 [(aR 0 [i0]),(aI 3),(aI 6)]) <| sI (aV 1) (sB (.call 100 [(aR 0 [i1,i0]),(aI 3),(aI 6)]) <| sI (aV 2) (sB (.call 100 [(aR 0 [i1,i1,i0]),(aI 1),(aI 4)]) <| sI (aV 3) (sB (.cmp .eq i6 (aR 0 [i1,i1,i1]) (aI (-1))) <| sI (aV 4) (sR tB [(.bool true)]) <| sB (.bin .sub i6 (aR 0 [i0]) (aI 2)) <| sB (.call 100 [(aR 0 [i1,i1,i1]),(aI 1),(aV 5)]) <| sR tB [(aV 6)]) <| sR tB [(.bool false)]) <| sR tB [(.bool false)]) <| sR tB [(.bool false)]
noncomputable def fn99 (x : sg99.p.den) : Option sg99.r.den := st99.den [⟨sg100.key, sg100.p, sg100.r, fn100⟩] [] sg99.r [⟨sg99.p, x⟩]
theorem spec99 : CallSpec Try.prog sg99 fn99 := spec (ss := [sg100]) (an := an99) (stm := st99) follows (Specs.cons spec100 (Specs.nil) (by kernel_rfl)) (by kernel_rfl) (by kernel_rfl) (fun _ => rfl)
theorem eq99 : fn99 = Pf.impl_DeviceOk := by kernel_rfl
-- impl.routeNodes
def sg101 : Sig := ⟨101,101,[.val i1 (tP tI (tP tI (tP tI tI)))],[.val i0 tI i1]⟩
def an101 : Ann := ⟨11,[(1,[0,1,2,3,4,5,6,7,8])],[],[],[],[]⟩
def st101 : Stm := sB (.bin .mul i6 (aR 0 [i0]) (aR 0 [i1,i0])) <| sB (.call 160 [(aR 0 [i0]),(aR 0 [i1,i0]),(aR 0 [i1,i1,i0]),(aR 0 [i1,i1,i1])]) <| sB (.bin .mul i6 (aV 1) (aV 2)) <| sR tI [(aV 3)]
noncomputable def fn101 (x : sg101.p.den) : Option sg101.r.den := st101.den [⟨sg160.key, sg160.p, sg160.r, fn160⟩] [] sg101.r [⟨sg101.p, x⟩]
theorem spec101 : CallSpec Try.prog sg101 fn101 := spec (ss := [sg160]) (an := an101) (stm := st101) follows (Specs.cons spec160 (Specs.nil) (by kernel_rfl)) (by kernel_rfl) (by kernel_rfl) (fun _ => rfl)
theorem eq101 : fn101 = Pf.impl_routeNodes := by kernel_rfl
-- impl.nodePlace
def sg102 : Sig := ⟨102,102,[.val i1 (tP tI (tP tI (tP tI tI))),.val i0 tI],[.val i0 tI i1,.val i0 tI i1]⟩
def an102 : Ann := ⟨14,[(1,[0,1,4,5,2,3,6,7,8,9])],[],[],[],[]⟩
def st102 : Stm := sB (.call 160 [(aR 0 [i0,i0]),(aR 0 [i0,i1,i0]),(aR 0 [i0,i1,i1,i0]),(aR 0 [i0,i1,i1,i1])]) <| sB (.div i6 (aR 0 [i1]) (aV 1)) <| sB (.call 160 [(aR 0 [i0,i0]),(aR 0 [i0,i1,i0]),(aR 0 [i0,i1,i1,i0]),(aR 0 [i0,i1,i1,i1])]) <| sB (.rem i6 (aR 0 [i1]) (aV 3)) <| sR (tP tI tI) [(aV 2),(aV 4)]
noncomputable def fn102 (x : sg102.p.den) : Option sg102.r.den := st102.den [⟨sg160.key, sg160.p, sg160.r, fn160⟩] [] sg102.r [⟨sg102.p, x⟩]
theorem spec102 : CallSpec Try.prog sg102 fn102 := spec (ss := [sg160]) (an := an102) (stm := st102) follows (Specs.cons spec160 (Specs.nil) (by kernel_rfl)) (by kernel_rfl) (by kernel_rfl) (fun _ => rfl)
theorem eq102 : fn102 = Pf.impl_nodePlace := by kernel_rfl
-- impl.tileStep
def sg107 : Sig := ⟨107,107,[.val i1 (tP tI (tP tI (tP tI tI))),.val i0 tI,.val i0 tI,.val i0 tI],[.val i0 tI i1]⟩
def an107 : Ann := ⟨58,[(1,[0,1,2,3,4,5,6,7,8,9])],[],[],[],[(10,(tP tI tI),[(4,(.c (.h 0))),(9,(sW (aR 3 [i0]))),(10,(sW (aR 3 [i1])))],[(.box 25 [(sV (aR 0 [i0,i0])),(sV (aR 0 [i0,i1,i0])),(sV (aR 0 [i0,i1,i1,i0])),(sV (aR 0 [i0,i1,i1,i1]))])])]⟩
def st107 : Stm := sB (.rem i6 (aR 0 [i1,i0]) (aR 0 [i0,i0])) <| sB (.div i6 (aR 0 [i1,i0]) (aR 0 [i0,i0])) <| sJ (tP tI tI) (sB (.cmp .eq i6 (aR 0 [i1,i1,i0]) (aI 0)) <| sI (aV 3) (sB (.bin .add i6 (aV 1) (aR 0 [i1,i1,i1])) <| sN (tP tI tI) [(aV 4),(aV 2)]) <| sB (.cmp .eq i6 (aR 0 [i1,i1,i0]) (aI 1)) <| sI (aV 4) (sB (.bin .add i6 (aV 2) (aR 0 [i1,i1,i1])) <| sN (tP tI tI) [(aV 1),(aV 5)]) <| sB (.cmp .eq i6 (aR 0 [i1,i1,i0]) (aI 2)) <| sI (aV 5) (sB (.bin .sub i6 (aV 1) (aR 0 [i1,i1,i1])) <| sN (tP tI tI) [(aV 6),(aV 2)]) <| sB (.bin .sub i6 (aV 2) (aR 0 [i1,i1,i1])) <| sN (tP tI tI) [(aV 1),(aV 6)]) <| sB (.bin .sub i6 (aR 0 [i0,i0]) (aI 1)) <| sB (.call 100 [(aR 3 [i0]),(aI 0),(aV 4)]) <| sB (.not (aV 5)) <| sI (aV 6) (sR tI [(aI (-1))]) <| sB (.bin .sub i6 (aR 0 [i0,i1,i0]) (aI 1)) <| sB (.call 100 [(aR 3 [i1]),(aI 0),(aV 7)]) <| sB (.not (aV 8)) <| sI (aV 9) (sR tI [(aI (-1))]) <| sB (.bin .mul i6 (aR 3 [i1]) (aR 0 [i0,i0])) <| sB (.bin .add i6 (aV 10) (aR 3 [i0])) <| sR tI [(aV 11)]
noncomputable def fn107 (x : sg107.p.den) : Option sg107.r.den := st107.den [⟨sg100.key, sg100.p, sg100.r, fn100⟩] [] sg107.r [⟨sg107.p, x⟩]
theorem spec107 : CallSpec Try.prog sg107 fn107 := spec (ss := [sg100]) (an := an107) (stm := st107) follows (Specs.cons spec100 (Specs.nil) (by kernel_rfl)) (by kernel_rfl) (by kernel_rfl) (fun _ => rfl)
theorem eq107 : fn107 = Pf.impl_tileStep := by kernel_rfl
-- spec.DeviceOk
def sg124 : Sig := ⟨124,124,[.val i1 (tP tI (tP tI (tP tI tI)))],[.val i0 tB i1]⟩
def an124 : Ann := ⟨29,[],[],[],[],[]⟩
def st124 : Stm := sB (.call 125 [(aR 0 [i0]),(aI 3),(aI 6)]) <| sI (aV 1) (sB (.call 125 [(aR 0 [i1,i0]),(aI 3),(aI 6)]) <| sI (aV 2) (sB (.call 125 [(aR 0 [i1,i1,i0]),(aI 1),(aI 4)]) <| sI (aV 3) (sB (.cmp .eq i6 (aR 0 [i1,i1,i1]) (aI (-1))) <| sI (aV 4) (sR tB [(.bool true)]) <| sB (.bin .sub i6 (aR 0 [i0]) (aI 2)) <| sB (.call 125 [(aR 0 [i1,i1,i1]),(aI 1),(aV 5)]) <| sR tB [(aV 6)]) <| sR tB [(.bool false)]) <| sR tB [(.bool false)]) <| sR tB [(.bool false)]
noncomputable def fn124 (x : sg124.p.den) : Option sg124.r.den := st124.den [⟨sg125.key, sg125.p, sg125.r, fn125⟩] [] sg124.r [⟨sg124.p, x⟩]
theorem spec124 : CallSpec Try.prog sg124 fn124 := spec (ss := [sg125]) (an := an124) (stm := st124) follows (Specs.cons spec125 (Specs.nil) (by kernel_rfl)) (by kernel_rfl) (by kernel_rfl) (fun _ => rfl)
theorem eq124 : fn124 = Pf.spec_DeviceOk := by kernel_rfl
-- spec.RouteNodes
def sg92 : Sig := ⟨92,92,[.val i1 (tP tI (tP tI (tP tI tI)))],[.val i0 tI i1]⟩
def an92 : Ann := ⟨14,[(3,[0,1,2,3,4,5,6,7,8])],[],[],[],[]⟩
def st92 : Stm := sB (.call 124 [(aR 0 [i0]),(aR 0 [i1,i0]),(aR 0 [i1,i1,i0]),(aR 0 [i1,i1,i1])]) <| sB (.not (aV 1)) <| sI (aV 2) (sR tI [(aI 0)]) <| sB (.bin .mul i6 (aR 0 [i0]) (aR 0 [i1,i0])) <| sB (.call 93 [(aR 0 [i0]),(aR 0 [i1,i0]),(aR 0 [i1,i1,i0]),(aR 0 [i1,i1,i1])]) <| sB (.bin .mul i6 (aV 3) (aV 4)) <| sR tI [(aV 5)]
noncomputable def fn92 (x : sg92.p.den) : Option sg92.r.den := st92.den [⟨sg124.key, sg124.p, sg124.r, fn124⟩, ⟨sg93.key, sg93.p, sg93.r, fn93⟩] [] sg92.r [⟨sg92.p, x⟩]
theorem spec92 : CallSpec Try.prog sg92 fn92 := spec (ss := [sg124, sg93]) (an := an92) (stm := st92) follows (Specs.cons spec124 (Specs.cons spec93 (Specs.nil) (by kernel_rfl)) (by kernel_rfl)) (by kernel_rfl) (by kernel_rfl) (fun _ => rfl)
theorem eq92 : fn92 = Pf.spec_RouteNodes := by kernel_rfl
-- spec.TileKind
def sg95 : Sig := ⟨95,95,[.val i1 (tP tI (tP tI (tP tI tI))),.val i0 tI],[.val i0 tI i1]⟩
def an95 : Ann := ⟨55,[],[],[],[],[]⟩
def st95 : Stm := sB (.call 124 [(aR 0 [i0,i0]),(aR 0 [i0,i1,i0]),(aR 0 [i0,i1,i1,i0]),(aR 0 [i0,i1,i1,i1])]) <| sB (.not (aV 1)) <| sI (aV 2) (sR tI [(aI (-1))]) <| sB (.cmp .lt i6 (aR 0 [i1]) (aI 0)) <| sI (aV 3) (sR tI [(aI (-1))]) <| sB (.bin .mul i6 (aR 0 [i0,i0]) (aR 0 [i0,i1,i0])) <| sB (.cmp .ge i6 (aR 0 [i1]) (aV 4)) <| sI (aV 5) (sR tI [(aI (-1))]) <| sB (.rem i6 (aR 0 [i1]) (aR 0 [i0,i0])) <| sB (.div i6 (aR 0 [i1]) (aR 0 [i0,i0])) <| sB (.cmp .eq i6 (aV 6) (aI 0)) <| sI (aV 8) (sR tI [(aI 0)]) <| sB (.cmp .eq i6 (aV 7) (aI 0)) <| sI (aV 9) (sR tI [(aI 0)]) <| sB (.bin .sub i6 (aR 0 [i0,i0]) (aI 1)) <| sB (.cmp .eq i6 (aV 6) (aV 10)) <| sI (aV 11) (sR tI [(aI 0)]) <| sB (.bin .sub i6 (aR 0 [i0,i1,i0]) (aI 1)) <| sB (.cmp .eq i6 (aV 7) (aV 12)) <| sI (aV 13) (sR tI [(aI 0)]) <| sB (.cmp .eq i6 (aV 6) (aR 0 [i0,i1,i1,i1])) <| sI (aV 14) (sR tI [(aI 2)]) <| sR tI [(aI 1)]
noncomputable def fn95 (x : sg95.p.den) : Option sg95.r.den := st95.den [⟨sg124.key, sg124.p, sg124.r, fn124⟩] [] sg95.r [⟨sg95.p, x⟩]
theorem spec95 : CallSpec Try.prog sg95 fn95 := spec (ss := [sg124]) (an := an95) (stm := st95) follows (Specs.cons spec124 (Specs.nil) (by kernel_rfl)) (by kernel_rfl) (by kernel_rfl) (fun _ => rfl)
theorem eq95 : fn95 = Pf.spec_TileKind := by kernel_rfl
-- impl.wireOf
def sg106 : Sig := ⟨106,106,[.val i1 (tP tI (tP tI (tP tI tI))),.val i0 tI],[.val i0 tI i1,.val i0 tI i1,.val i0 tI i1,.val i0 tB i1]⟩
def an106 : Ann := ⟨29,[(2,[0,1,2,3,4,5,6,7,8,9,10,11,12,13,14,15,16])],[],[],[],[]⟩
def st106 : Stm := sB (.call 102 [(aR 0 [i0,i0]),(aR 0 [i0,i1,i0]),(aR 0 [i0,i1,i1,i0]),(aR 0 [i0,i1,i1,i1]),(aR 0 [i1])]) <| sB (.bin .sub i6 (aR 1 [i1]) (aI 7)) <| sB (.div i6 (aV 2) (aR 0 [i0,i1,i1,i0])) <| sB (.bin .sub i6 (aR 1 [i1]) (aI 7)) <| sB (.rem i6 (aV 4) (aR 0 [i0,i1,i1,i0])) <| sB (.cmp .ge i6 (aR 1 [i1]) (aI 7)) <| sR (tP tI (tP tI (tP tI tB))) [(aR 1 [i0]),(aV 3),(aV 5),(aV 6)]
noncomputable def fn106 (x : sg106.p.den) : Option sg106.r.den := st106.den [⟨sg102.key, sg102.p, sg102.r, fn102⟩] [] sg106.r [⟨sg106.p, x⟩]
theorem spec106 : CallSpec Try.prog sg106 fn106 := spec (ss := [sg102]) (an := an106) (stm := st106) follows (Specs.cons spec102 (Specs.nil) (by kernel_rfl)) (by kernel_rfl) (by kernel_rfl) (fun _ => rfl)
theorem eq106 : fn106 = Pf.impl_wireOf := by kernel_rfl
-- impl.RouteNodeOk
def sg27 : Sig := ⟨27,27,[.val i1 (tP tI (tP tI (tP tI tI))),.val i0 tI],[.val i0 tB i1]⟩
def an27 : Ann := ⟨62,[(9,[0,1,2,3,4,5,6,7])],[],[],[],[]⟩
def st27 : Stm := sB (.call 99 [(aR 0 [i0,i0]),(aR 0 [i0,i1,i0]),(aR 0 [i0,i1,i1,i0]),(aR 0 [i0,i1,i1,i1])]) <| sB (.not (aV 1)) <| sI (aV 2) (sR tB [(.bool false)]) <| sB (.call 101 [(aR 0 [i0,i0]),(aR 0 [i0,i1,i0]),(aR 0 [i0,i1,i1,i0]),(aR 0 [i0,i1,i1,i1])]) <| sB (.bin .sub i6 (aV 3) (aI 1)) <| sB (.call 100 [(aR 0 [i1]),(aI 0),(aV 4)]) <| sB (.not (aV 5)) <| sI (aV 6) (sR tB [(.bool false)]) <| sB (.call 102 [(aR 0 [i0,i0]),(aR 0 [i0,i1,i0]),(aR 0 [i0,i1,i1,i0]),(aR 0 [i0,i1,i1,i1]),(aR 0 [i1])]) <| sB (.cmp .lt i6 (aR 7 [i1]) (aI 5)) <| sI (aV 8) (sB (.call 104 [(aR 0 [i0,i0]),(aR 0 [i0,i1,i0]),(aR 0 [i0,i1,i1,i0]),(aR 0 [i0,i1,i1,i1]),(aR 7 [i0])]) <| sB (.call 103 [(aV 9)]) <| sB (.cmp .lt i6 (aR 7 [i1]) (aV 10)) <| sR tB [(aV 11)]) <| sB (.cmp .lt i6 (aR 7 [i1]) (aI 7)) <| sI (aV 9) (sB (.bin .sub i6 (aR 7 [i1]) (aI 5)) <| sB (.call 104 [(aR 0 [i0,i0]),(aR 0 [i0,i1,i0]),(aR 0 [i0,i1,i1,i0]),(aR 0 [i0,i1,i1,i1]),(aR 7 [i0])]) <| sB (.call 105 [(aV 11)]) <| sB (.cmp .lt i6 (aV 10) (aV 12)) <| sR tB [(aV 13)]) <| sB (.call 106 [(aR 0 [i0,i0]),(aR 0 [i0,i1,i0]),(aR 0 [i0,i1,i1,i0]),(aR 0 [i0,i1,i1,i1]),(aR 0 [i1])]) <| sB (.call 108 [(aR 10 [i1,i1,i0])]) <| sB (.call 107 [(aR 0 [i0,i0]),(aR 0 [i0,i1,i0]),(aR 0 [i0,i1,i1,i0]),(aR 0 [i0,i1,i1,i1]),(aR 7 [i0]),(aR 10 [i1,i0]),(aV 11)]) <| sB (.cmp .ge i6 (aV 12) (aI 0)) <| sR tB [(aV 13)]
noncomputable def fn27 (x : sg27.p.den) : Option sg27.r.den := st27.den [⟨sg99.key, sg99.p, sg99.r, fn99⟩, ⟨sg101.key, sg101.p, sg101.r, fn101⟩, ⟨sg100.key, sg100.p, sg100.r, fn100⟩, ⟨sg102.key, sg102.p, sg102.r, fn102⟩, ⟨sg104.key, sg104.p, sg104.r, fn104⟩, ⟨sg103.key, sg103.p, sg103.r, fn103⟩, ⟨sg105.key, sg105.p, sg105.r, fn105⟩, ⟨sg106.key, sg106.p, sg106.r, fn106⟩, ⟨sg108.key, sg108.p, sg108.r, fn108⟩, ⟨sg107.key, sg107.p, sg107.r, fn107⟩] [] sg27.r [⟨sg27.p, x⟩]
theorem spec27 : CallSpec Try.prog sg27 fn27 := spec (ss := [sg99, sg101, sg100, sg102, sg104, sg103, sg105, sg106, sg108, sg107]) (an := an27) (stm := st27) follows (Specs.cons spec99 (Specs.cons spec101 (Specs.cons spec100 (Specs.cons spec102 (Specs.cons spec104 (Specs.cons spec103 (Specs.cons spec105 (Specs.cons spec106 (Specs.cons spec108 (Specs.cons spec107 (Specs.nil) (by kernel_rfl)) (by kernel_rfl)) (by kernel_rfl)) (by kernel_rfl)) (by kernel_rfl)) (by kernel_rfl)) (by kernel_rfl)) (by kernel_rfl)) (by kernel_rfl)) (by kernel_rfl)) (by kernel_rfl) (by kernel_rfl) (fun _ => rfl)
theorem eq27 : fn27 = Pf.impl_RouteNodeOk := by kernel_rfl
-- spec.TileStep
def sg98 : Sig := ⟨98,98,[.val i1 (tP tI (tP tI (tP tI tI))),.val i0 tI,.val i0 tI,.val i0 tI],[.val i0 tI i1]⟩
def an98 : Ann := ⟨67,[(3,[0,1,2,3,5,8,4,6,7,9,10,11]),(4,[0,1,2,3,5,8,4,6,7,9,10,11])],[],[],[],[]⟩
def st98 : Stm := sB (.call 95 [(aR 0 [i0,i0]),(aR 0 [i0,i1,i0]),(aR 0 [i0,i1,i1,i0]),(aR 0 [i0,i1,i1,i1]),(aR 0 [i1,i0])]) <| sB (.cmp .lt i6 (aV 1) (aI 0)) <| sI (aV 2) (sR tI [(aI (-1))]) <| sB (.call 125 [(aR 0 [i1,i1,i0]),(aI 0),(aI 3)]) <| sB (.not (aV 3)) <| sI (aV 4) (sR tI [(aI (-1))]) <| sB (.call 125 [(aR 0 [i1,i1,i1]),(aI 0),(aI 6)]) <| sB (.not (aV 5)) <| sI (aV 6) (sR tI [(aI (-1))]) <| sB (.rem i6 (aR 0 [i1,i0]) (aR 0 [i0,i0])) <| sB (.lst 3 tI [[(aI 1)],[(aI 0)],[(aI (-1))],[(aI 0)]]) <| sB (.idx (aV 8) (aR 0 [i1,i1,i0])) <| sB (.get (aV 8) (aR 0 [i1,i1,i0])) <| sB (.bin .mul i6 (aV 10) (aR 0 [i1,i1,i1])) <| sB (.bin .add i6 (aV 7) (aV 11)) <| sB (.div i6 (aR 0 [i1,i0]) (aR 0 [i0,i0])) <| sB (.lst 3 tI [[(aI 0)],[(aI 1)],[(aI 0)],[(aI (-1))]]) <| sB (.idx (aV 14) (aR 0 [i1,i1,i0])) <| sB (.get (aV 14) (aR 0 [i1,i1,i0])) <| sB (.bin .mul i6 (aV 16) (aR 0 [i1,i1,i1])) <| sB (.bin .add i6 (aV 13) (aV 17)) <| sB (.bin .sub i6 (aR 0 [i0,i0]) (aI 1)) <| sB (.call 125 [(aV 12),(aI 0),(aV 19)]) <| sB (.not (aV 20)) <| sI (aV 21) (sR tI [(aI (-1))]) <| sB (.bin .sub i6 (aR 0 [i0,i1,i0]) (aI 1)) <| sB (.call 125 [(aV 18),(aI 0),(aV 22)]) <| sB (.not (aV 23)) <| sI (aV 24) (sR tI [(aI (-1))]) <| sB (.bin .mul i6 (aV 18) (aR 0 [i0,i0])) <| sB (.bin .add i6 (aV 25) (aV 12)) <| sR tI [(aV 26)]
noncomputable def fn98 (x : sg98.p.den) : Option sg98.r.den := st98.den [⟨sg95.key, sg95.p, sg95.r, fn95⟩, ⟨sg125.key, sg125.p, sg125.r, fn125⟩] [] sg98.r [⟨sg98.p, x⟩]
theorem spec98 : CallSpec Try.prog sg98 fn98 := spec (ss := [sg95, sg125]) (an := an98) (stm := st98) follows (Specs.cons spec95 (Specs.cons spec125 (Specs.nil) (by kernel_rfl)) (by kernel_rfl)) (by kernel_rfl) (by kernel_rfl) (fun _ => rfl)
theorem eq98 : fn98 = Pf.spec_TileStep := by kernel_rfl
-- spec.RouteNodeOk
def sg25 : Sig := ⟨25,25,[.val i1 (tP tI (tP tI (tP tI tI))),.val i0 tI],[.val i0 tB i1]⟩
def an25 : Ann := ⟨56,[],[],[],[],[]⟩
def st25 : Stm := sB (.cmp .lt i6 (aR 0 [i1]) (aI 0)) <| sI (aV 1) (sR tB [(.bool false)]) <| sB (.call 92 [(aR 0 [i0,i0]),(aR 0 [i0,i1,i0]),(aR 0 [i0,i1,i1,i0]),(aR 0 [i0,i1,i1,i1])]) <| sB (.cmp .ge i6 (aR 0 [i1]) (aV 2)) <| sI (aV 3) (sR tB [(.bool false)]) <| sB (.call 93 [(aR 0 [i0,i0]),(aR 0 [i0,i1,i0]),(aR 0 [i0,i1,i1,i0]),(aR 0 [i0,i1,i1,i1])]) <| sB (.div i6 (aR 0 [i1]) (aV 4)) <| sB (.call 93 [(aR 0 [i0,i0]),(aR 0 [i0,i1,i0]),(aR 0 [i0,i1,i1,i0]),(aR 0 [i0,i1,i1,i1])]) <| sB (.rem i6 (aR 0 [i1]) (aV 6)) <| sB (.cmp .lt i6 (aV 7) (aI 5)) <| sI (aV 8) (sB (.call 95 [(aR 0 [i0,i0]),(aR 0 [i0,i1,i0]),(aR 0 [i0,i1,i1,i0]),(aR 0 [i0,i1,i1,i1]),(aV 5)]) <| sB (.call 94 [(aV 9)]) <| sB (.cmp .lt i6 (aV 7) (aV 10)) <| sR tB [(aV 11)]) <| sB (.cmp .lt i6 (aV 7) (aI 7)) <| sI (aV 9) (sB (.bin .sub i6 (aV 7) (aI 5)) <| sB (.call 95 [(aR 0 [i0,i0]),(aR 0 [i0,i1,i0]),(aR 0 [i0,i1,i1,i0]),(aR 0 [i0,i1,i1,i1]),(aV 5)]) <| sB (.call 96 [(aV 11)]) <| sB (.cmp .lt i6 (aV 10) (aV 12)) <| sR tB [(aV 13)]) <| sB (.call 97 [(aR 0 [i0,i0]),(aR 0 [i0,i1,i0]),(aR 0 [i0,i1,i1,i0]),(aR 0 [i0,i1,i1,i1]),(aR 0 [i1])]) <| sB (.rem i6 (aR 10 [i1]) (aI 2)) <| sB (.bin .add i6 (aI 1) (aV 11)) <| sB (.call 98 [(aR 0 [i0,i0]),(aR 0 [i0,i1,i0]),(aR 0 [i0,i1,i1,i0]),(aR 0 [i0,i1,i1,i1]),(aV 5),(aR 10 [i0]),(aV 12)]) <| sB (.cmp .ge i6 (aV 13) (aI 0)) <| sR tB [(aV 14)]
noncomputable def fn25 (x : sg25.p.den) : Option sg25.r.den := st25.den [⟨sg92.key, sg92.p, sg92.r, fn92⟩, ⟨sg93.key, sg93.p, sg93.r, fn93⟩, ⟨sg95.key, sg95.p, sg95.r, fn95⟩, ⟨sg94.key, sg94.p, sg94.r, fn94⟩, ⟨sg96.key, sg96.p, sg96.r, fn96⟩, ⟨sg97.key, sg97.p, sg97.r, fn97⟩, ⟨sg98.key, sg98.p, sg98.r, fn98⟩] [] sg25.r [⟨sg25.p, x⟩]
theorem spec25 : CallSpec Try.prog sg25 fn25 := spec (ss := [sg92, sg93, sg95, sg94, sg96, sg97, sg98]) (an := an25) (stm := st25) follows (Specs.cons spec92 (Specs.cons spec93 (Specs.cons spec95 (Specs.cons spec94 (Specs.cons spec96 (Specs.cons spec97 (Specs.cons spec98 (Specs.nil) (by kernel_rfl)) (by kernel_rfl)) (by kernel_rfl)) (by kernel_rfl)) (by kernel_rfl)) (by kernel_rfl)) (by kernel_rfl)) (by kernel_rfl) (by kernel_rfl) (fun _ => rfl)
theorem eq25 : fn25 = Pf.spec_RouteNodeOk := by kernel_rfl
-- impl.IsWire
def sg29 : Sig := ⟨29,29,[.val i1 (tP tI (tP tI (tP tI tI))),.val i0 tI],[.val i0 tB i1]⟩
def an29 : Ann := ⟨22,[],[],[],[],[]⟩
def st29 : Stm := sB (.call 27 [(aR 0 [i0,i0]),(aR 0 [i0,i1,i0]),(aR 0 [i0,i1,i1,i0]),(aR 0 [i0,i1,i1,i1]),(aR 0 [i1])]) <| sB (.not (aV 1)) <| sI (aV 2) (sR tB [(.bool false)]) <| sB (.call 106 [(aR 0 [i0,i0]),(aR 0 [i0,i1,i0]),(aR 0 [i0,i1,i1,i0]),(aR 0 [i0,i1,i1,i1]),(aR 0 [i1])]) <| sR tB [(aR 3 [i1,i1,i1])]
noncomputable def fn29 (x : sg29.p.den) : Option sg29.r.den := st29.den [⟨sg27.key, sg27.p, sg27.r, fn27⟩, ⟨sg106.key, sg106.p, sg106.r, fn106⟩] [] sg29.r [⟨sg29.p, x⟩]
theorem spec29 : CallSpec Try.prog sg29 fn29 := spec (ss := [sg27, sg106]) (an := an29) (stm := st29) follows (Specs.cons spec27 (Specs.cons spec106 (Specs.nil) (by kernel_rfl)) (by kernel_rfl)) (by kernel_rfl) (by kernel_rfl) (fun _ => rfl)
theorem eq29 : fn29 = Pf.impl_IsWire := by kernel_rfl
-- spec.IsWire
def sg28 : Sig := ⟨28,28,[.val i1 (tP tI (tP tI (tP tI tI))),.val i0 tI],[.val i0 tB i1]⟩
def an28 : Ann := ⟨15,[],[],[],[],[]⟩
def st28 : Stm := sB (.call 25 [(aR 0 [i0,i0]),(aR 0 [i0,i1,i0]),(aR 0 [i0,i1,i1,i0]),(aR 0 [i0,i1,i1,i1]),(aR 0 [i1])]) <| sI (aV 1) (sB (.call 93 [(aR 0 [i0,i0]),(aR 0 [i0,i1,i0]),(aR 0 [i0,i1,i1,i0]),(aR 0 [i0,i1,i1,i1])]) <| sB (.rem i6 (aR 0 [i1]) (aV 2)) <| sB (.cmp .ge i6 (aV 3) (aI 7)) <| sR tB [(aV 4)]) <| sR tB [(.bool false)]
noncomputable def fn28 (x : sg28.p.den) : Option sg28.r.den := st28.den [⟨sg25.key, sg25.p, sg25.r, fn25⟩, ⟨sg93.key, sg93.p, sg93.r, fn93⟩] [] sg28.r [⟨sg28.p, x⟩]
theorem spec28 : CallSpec Try.prog sg28 fn28 := spec (ss := [sg25, sg93]) (an := an28) (stm := st28) follows (Specs.cons spec25 (Specs.cons spec93 (Specs.nil) (by kernel_rfl)) (by kernel_rfl)) (by kernel_rfl) (by kernel_rfl) (fun _ => rfl)
theorem eq28 : fn28 = Pf.spec_IsWire := by kernel_rfl
-- impl.WireReaches
def sg38 : Sig := ⟨38,38,[.val i1 (tP tI (tP tI (tP tI tI))),.val i0 tI],[.val i0 (tS 3 tI) i1]⟩
def an38 : Ann := ⟨38,[],[],[(0,(tP (tS 3 tI) tI),[(2,(.c (.h 0))),(5,(sW (aR 3 [i0]))),(6,(sW (aR 3 [i1,i0]))),(7,(sW (aR 3 [i1,i1,i0]))),(9,(.c (.h 1))),(10,(sW (aR 4 [i1])))],[(.box 25 [(sV (aR 0 [i0,i0])),(sV (aR 0 [i0,i1,i0])),(sV (aR 0 [i0,i1,i1,i0])),(sV (aR 0 [i0,i1,i1,i1]))]),(.list 3 tI (aR 4 [i0]) i1 none)])],[],[]⟩
def st38 : Stm := sB (.call 29 [(aR 0 [i0,i0]),(aR 0 [i0,i1,i0]),(aR 0 [i0,i1,i1,i0]),(aR 0 [i0,i1,i1,i1]),(aR 0 [i1])]) <| sB (.not (aV 1)) <| sI (aV 2) (sR (tS 3 tI) [(.nil (tS 3 tI))]) <| sB (.call 106 [(aR 0 [i0,i0]),(aR 0 [i0,i1,i0]),(aR 0 [i0,i1,i1,i0]),(aR 0 [i0,i1,i1,i1]),(aR 0 [i1])]) <| sL (tP (tS 3 tI) tI) [(.nil (tS 3 tI)),(aI 1)] <| sB (.call 108 [(aR 3 [i1,i1,i0])]) <| sB (.cmp .le i6 (aR 4 [i1]) (aV 5)) <| sI (aV 6) (sB (.call 107 [(aR 0 [i0,i0]),(aR 0 [i0,i1,i0]),(aR 0 [i0,i1,i1,i0]),(aR 0 [i0,i1,i1,i1]),(aR 3 [i0]),(aR 3 [i1,i0]),(aR 4 [i1])]) <| sB (.lst 3 tI [[(aV 7)]]) <| sB (.app 8 (aR 4 [i0]) (aV 8)) <| sB (.bin .add i6 (aR 4 [i1]) (aI 1)) <| sN (tP (tS 3 tI) tI) [(aV 9),(aV 10)]) <| sU <| sR (tS 3 tI) [(aR 4 [i0])]
noncomputable def fn38 (x : sg38.p.den) : Option sg38.r.den := st38.den [⟨sg29.key, sg29.p, sg29.r, fn29⟩, ⟨sg106.key, sg106.p, sg106.r, fn106⟩, ⟨sg108.key, sg108.p, sg108.r, fn108⟩, ⟨sg107.key, sg107.p, sg107.r, fn107⟩] [] sg38.r [⟨sg38.p, x⟩]
theorem spec38 : CallSpec Try.prog sg38 fn38 := spec (ss := [sg29, sg106, sg108, sg107]) (an := an38) (stm := st38) follows (Specs.cons spec29 (Specs.cons spec106 (Specs.cons spec108 (Specs.cons spec107 (Specs.nil) (by kernel_rfl)) (by kernel_rfl)) (by kernel_rfl)) (by kernel_rfl)) (by kernel_rfl) (by kernel_rfl) (fun _ => rfl)
theorem eq38 : fn38 = Pf.impl_WireReaches := by kernel_rfl
-- spec.WireReaches
def sg37 : Sig := ⟨37,37,[.val i1 (tP tI (tP tI (tP tI tI))),.val i0 tI],[.val i0 (tS 3 tI) i0]⟩
def an37 : Ann := ⟨40,[(8,[0,1,2,3,6,7,4,5,8,9,10,11])],[],[(0,(tP tI (tS 3 tI)),[(1,(sW (aR 0 [i1]))),(2,(.c (.h 0))),(5,(.c (.h 1))),(6,(sW (aR 3 [i0]))),(7,(sW (aR 3 [i1]))),(8,(sW (aR 4 [i0])))],[(.box 25 [(sV (aR 0 [i0,i0])),(sV (aR 0 [i0,i1,i0])),(sV (aR 0 [i0,i1,i1,i0])),(sV (aR 0 [i0,i1,i1,i1]))]),(.list 3 tI (aR 4 [i1]) i0 none)])],[],[]⟩
def st37 : Stm := sB (.call 28 [(aR 0 [i0,i0]),(aR 0 [i0,i1,i0]),(aR 0 [i0,i1,i1,i0]),(aR 0 [i0,i1,i1,i1]),(aR 0 [i1])]) <| sB (.not (aV 1)) <| sI (aV 2) (sR (tS 3 tI) [(.nil (tS 3 tI))]) <| sB (.call 97 [(aR 0 [i0,i0]),(aR 0 [i0,i1,i0]),(aR 0 [i0,i1,i1,i0]),(aR 0 [i0,i1,i1,i1]),(aR 0 [i1])]) <| sL (tP tI (tS 3 tI)) [(aI 1),(.nil (tS 3 tI))] <| sB (.rem i6 (aR 3 [i1]) (aI 2)) <| sB (.bin .add i6 (aI 1) (aV 5)) <| sB (.cmp .le i6 (aR 4 [i0]) (aV 6)) <| sI (aV 7) (sB (.call 93 [(aR 0 [i0,i0]),(aR 0 [i0,i1,i0]),(aR 0 [i0,i1,i1,i0]),(aR 0 [i0,i1,i1,i1])]) <| sB (.div i6 (aR 0 [i1]) (aV 8)) <| sB (.call 98 [(aR 0 [i0,i0]),(aR 0 [i0,i1,i0]),(aR 0 [i0,i1,i1,i0]),(aR 0 [i0,i1,i1,i1]),(aV 9),(aR 3 [i0]),(aR 4 [i0])]) <| sB (.lst 3 tI [[(aV 10)]]) <| sB (.app 8 (aR 4 [i1]) (aV 11)) <| sB (.bin .add i6 (aR 4 [i0]) (aI 1)) <| sN (tP tI (tS 3 tI)) [(aV 13),(aV 12)]) <| sU <| sR (tS 3 tI) [(aR 4 [i1])]
noncomputable def fn37 (x : sg37.p.den) : Option sg37.r.den := st37.den [⟨sg28.key, sg28.p, sg28.r, fn28⟩, ⟨sg97.key, sg97.p, sg97.r, fn97⟩, ⟨sg93.key, sg93.p, sg93.r, fn93⟩, ⟨sg98.key, sg98.p, sg98.r, fn98⟩] [] sg37.r [⟨sg37.p, x⟩]
theorem spec37 : CallSpec Try.prog sg37 fn37 := spec (ss := [sg28, sg97, sg93, sg98]) (an := an37) (stm := st37) follows (Specs.cons spec28 (Specs.cons spec97 (Specs.cons spec93 (Specs.cons spec98 (Specs.nil) (by kernel_rfl)) (by kernel_rfl)) (by kernel_rfl)) (by kernel_rfl)) (by kernel_rfl) (by kernel_rfl) (fun _ => rfl)
theorem eq37 : fn37 = Pf.spec_WireReaches := by kernel_rfl
-- impl.crossing
def sg132129 : Sig := ⟨132129,129,[.val i1 (tP tI (tP tI (tP tI tI))),.fn 131 [(tP tI (tP tI (tP tI tI))),tI]],[.val i0 (tS 3 tI) i1]⟩
def an132129 : Ann := ⟨48,[],[],[(2,tI,[(1,(.c (.fn 131 [(.rp none [(sV (aR 0 [i1,i0,i0])),(sV (aR 0 [i1,i0,i1,i0])),(sV (aR 0 [i1,i0,i1,i1,i0])),(sV (aR 0 [i1,i0,i1,i1,i1]))]),(.rp none [(sV (aR 0 [i1,i1]))])]))),(2,(.c (.h 0))),(5,(.c (.h 1))),(6,(sW (aR 1 [i0]))),(7,(sW (aR 6 [i0]))),(29,(.c (.h 2))),(30,(sW (aV 8))),(31,(sW (aV 9)))],[(.box 25 [(sV (aR 0 [i0,i0])),(sV (aR 0 [i0,i1,i0])),(sV (aR 0 [i0,i1,i1,i0])),(sV (aR 0 [i0,i1,i1,i1]))]),(.list 3 tI (aR 1 [i1]) i1 none),(.list 3 tI (aV 7) i1 none)]),(0,(tP tI (tS 3 tI)),[(1,(.c (.fn 131 [(.rp none [(sV (aR 0 [i1,i0,i0])),(sV (aR 0 [i1,i0,i1,i0])),(sV (aR 0 [i1,i0,i1,i1,i0])),(sV (aR 0 [i1,i0,i1,i1,i1]))]),(.rp none [(sV (aR 0 [i1,i1]))])]))),(2,(.c (.h 0))),(5,(.c (.h 1))),(6,(sW (aR 1 [i0])))],[(.box 25 [(sV (aR 0 [i0,i0])),(sV (aR 0 [i0,i1,i0])),(sV (aR 0 [i0,i1,i1,i0])),(sV (aR 0 [i0,i1,i1,i1]))]),(.list 3 tI (aR 1 [i1]) i1 none)])],[(2,(tS 3 tI),[(1,(.c (.fn 131 [(.rp none [(sV (aR 0 [i1,i0,i0])),(sV (aR 0 [i1,i0,i1,i0])),(sV (aR 0 [i1,i0,i1,i1,i0])),(sV (aR 0 [i1,i0,i1,i1,i1]))]),(.rp none [(sV (aR 0 [i1,i1]))])]))),(2,(.c (.h 0))),(5,(.c (.h 1))),(6,(sW (aR 1 [i0])))],[(.box 25 [(sV (aR 0 [i0,i0])),(sV (aR 0 [i0,i1,i0])),(sV (aR 0 [i0,i1,i1,i0])),(sV (aR 0 [i0,i1,i1,i1]))]),(.list 3 tI (aV 9) i1 none),.dead])],[]⟩
def st132129 : Stm := sL (tP tI (tS 3 tI)) [(aI 0),(.nil (tS 3 tI))] <| sB (.call 101 [(aR 0 [i0,i0]),(aR 0 [i0,i1,i0]),(aR 0 [i0,i1,i1,i0]),(aR 0 [i0,i1,i1,i1])]) <| sB (.cmp .lt i6 (aR 1 [i0]) (aV 2)) <| sI (aV 3) (sB (.call 29 [(aR 0 [i0,i0]),(aR 0 [i0,i1,i0]),(aR 0 [i0,i1,i1,i0]),(aR 0 [i0,i1,i1,i1]),(aR 1 [i0])]) <| sB (.not (aV 4)) <| sI (aV 5) (sB (.bin .add i6 (aR 1 [i0]) (aI 1)) <| sN (tP tI (tS 3 tI)) [(aV 6),(aR 1 [i1])]) <| sB (.call 102 [(aR 0 [i0,i0]),(aR 0 [i0,i1,i0]),(aR 0 [i0,i1,i1,i0]),(aR 0 [i0,i1,i1,i1]),(aR 1 [i0])]) <| sB (.call 38 [(aR 0 [i0,i0]),(aR 0 [i0,i1,i0]),(aR 0 [i0,i1,i1,i0]),(aR 0 [i0,i1,i1,i1]),(aR 1 [i0])]) <| sB (.len (aV 7)) <| sJ (tS 3 tI) (sL tI [(aI 0)] <| sB (.cmp .lt i6 (aV 9) (aV 8)) <| sI (aV 10) (sB (.idx (aV 7) (aV 9)) <| sB (.get (aV 7) (aV 9)) <| sB (.call 131 [(aR 6 [i0]),(aR 0 [i1,i0,i0]),(aR 0 [i1,i0,i1,i0]),(aR 0 [i1,i0,i1,i1,i0]),(aR 0 [i1,i0,i1,i1,i1]),(aR 0 [i1,i1])]) <| sB (.call 131 [(aV 12),(aR 0 [i1,i0,i0]),(aR 0 [i1,i0,i1,i0]),(aR 0 [i1,i0,i1,i1,i0]),(aR 0 [i1,i0,i1,i1,i1]),(aR 0 [i1,i1])]) <| sB (.beq i1 (aV 13) (aV 14)) <| sI (aV 15) (sB (.lst 3 tI [[(aR 1 [i0])]]) <| sB (.app 8 (aR 1 [i1]) (aV 16)) <| sU <| sN (tS 3 tI) [(aV 17)]) <| sB (.bin .add i6 (aV 9) (aI 1)) <| sN tI [(aV 16)]) <| sU <| sN (tS 3 tI) [(aR 1 [i1])]) <| sB (.bin .add i6 (aR 1 [i0]) (aI 1)) <| sN (tP tI (tS 3 tI)) [(aV 10),(aV 9)]) <| sU <| sR (tS 3 tI) [(aR 1 [i1])]
noncomputable def fn132129 (x : sg132129.p.den) : Option sg132129.r.den := st132129.den [⟨sg101.key, sg101.p, sg101.r, fn101⟩, ⟨sg29.key, sg29.p, sg29.r, fn29⟩, ⟨sg102.key, sg102.p, sg102.r, fn102⟩, ⟨sg38.key, sg38.p, sg38.r, fn38⟩, ⟨sg131.key, sg131.p, sg131.r, fn131⟩] [] sg132129.r [⟨sg132129.p, x⟩]
theorem spec132129 : CallSpec Try.prog sg132129 fn132129 := spec (ss := [sg101, sg29, sg102, sg38, sg131]) (an := an132129) (stm := st132129) follows (Specs.cons spec101 (Specs.cons spec29 (Specs.cons spec102 (Specs.cons spec38 (Specs.cons spec131 (Specs.nil) (by kernel_rfl)) (by kernel_rfl)) (by kernel_rfl)) (by kernel_rfl)) (by kernel_rfl)) (by kernel_rfl) (by kernel_rfl) (fun _ => rfl)
theorem eq132129 : fn132129 = Pf.impl_crossing_132129 := by kernel_rfl
-- impl.RowCut
def sg60 : Sig := ⟨60,60,[.val i1 (tP tI (tP tI (tP tI tI))),.val i0 tI],[.val i0 (tS 3 tI) i1]⟩
def an60 : Ann := ⟨19,[],[],[],[],[]⟩
def st60 : Stm := sB (.call 99 [(aR 0 [i0,i0]),(aR 0 [i0,i1,i0]),(aR 0 [i0,i1,i1,i0]),(aR 0 [i0,i1,i1,i1])]) <| sB (.not (aV 1)) <| sI (aV 2) (sR (tS 3 tI) [(.nil (tS 3 tI))]) <| sB (.bin .sub i6 (aR 0 [i0,i1,i0]) (aI 2)) <| sB (.call 100 [(aR 0 [i1]),(aI 0),(aV 3)]) <| sB (.not (aV 4)) <| sI (aV 5) (sR (tS 3 tI) [(.nil (tS 3 tI))]) <| sB (.call 132129 [(aR 0 [i0,i0]),(aR 0 [i0,i1,i0]),(aR 0 [i0,i1,i1,i0]),(aR 0 [i0,i1,i1,i1]),(aR 0 [i0,i0]),(aR 0 [i0,i1,i0]),(aR 0 [i0,i1,i1,i0]),(aR 0 [i0,i1,i1,i1]),(aR 0 [i1])]) <| sR (tS 3 tI) [(aV 6)]
noncomputable def fn60 (x : sg60.p.den) : Option sg60.r.den := st60.den [⟨sg99.key, sg99.p, sg99.r, fn99⟩, ⟨sg100.key, sg100.p, sg100.r, fn100⟩, ⟨sg132129.key, sg132129.p, sg132129.r, fn132129⟩] [] sg60.r [⟨sg60.p, x⟩]
theorem spec60 : CallSpec Try.prog sg60 fn60 := spec (ss := [sg99, sg100, sg132129]) (an := an60) (stm := st60) follows (Specs.cons spec99 (Specs.cons spec100 (Specs.cons spec132129 (Specs.nil) (by kernel_rfl)) (by kernel_rfl)) (by kernel_rfl)) (by kernel_rfl) (by kernel_rfl) (fun _ => rfl)
theorem eq60 : fn60 = Pf.impl_RowCut := by kernel_rfl
-- spec.l35Line
def sg128 : Sig := ⟨128,128,[.val i1 (tP tI (tP tI (tP tI tI))),.val i0 tB,.val i0 tI],[.val i0 (tS 3 tI) i0]⟩
def an128 : Ann := ⟨66,[],[],[(0,(tP tI (tS 3 tI)),[(1,(sW (aR 0 [i1,i0]))),(2,(sW (aR 0 [i1,i1]))),(3,(.c (.h 0))),(7,(.c (.h 1))),(8,(sW (aR 1 [i0])))],[(.box 25 [(sV (aR 0 [i0,i0])),(sV (aR 0 [i0,i1,i0])),(sV (aR 0 [i0,i1,i1,i0])),(sV (aR 0 [i0,i1,i1,i1]))]),(.list 3 tI (aR 1 [i1]) i0 none)])],[],[]⟩
def st128 : Stm := sL (tP tI (tS 3 tI)) [(aI 0),(.nil (tS 3 tI))] <| sB (.call 92 [(aR 0 [i0,i0]),(aR 0 [i0,i1,i0]),(aR 0 [i0,i1,i1,i0]),(aR 0 [i0,i1,i1,i1])]) <| sB (.cmp .lt i6 (aR 1 [i0]) (aV 2)) <| sI (aV 3) (sB (.call 37 [(aR 0 [i0,i0]),(aR 0 [i0,i1,i0]),(aR 0 [i0,i1,i1,i0]),(aR 0 [i0,i1,i1,i1]),(aR 1 [i0])]) <| sB (.len (aV 4)) <| sB (.cmp .eq i6 (aV 5) (aI 0)) <| sI (aV 6) (sB (.bin .add i6 (aR 1 [i0]) (aI 1)) <| sN (tP tI (tS 3 tI)) [(aV 7),(aR 1 [i1])]) <| sB (.call 93 [(aR 0 [i0,i0]),(aR 0 [i0,i1,i0]),(aR 0 [i0,i1,i1,i0]),(aR 0 [i0,i1,i1,i1])]) <| sB (.div i6 (aR 1 [i0]) (aV 7)) <| sB (.len (aV 4)) <| sB (.bin .sub i6 (aV 9) (aI 1)) <| sB (.idx (aV 4) (aV 10)) <| sB (.get (aV 4) (aV 10)) <| sB (.rem i6 (aV 8) (aR 0 [i0,i0])) <| sB (.rem i6 (aV 12) (aR 0 [i0,i0])) <| sI (aR 0 [i1,i0]) (sB (.div i6 (aV 8) (aR 0 [i0,i0])) <| sB (.div i6 (aV 12) (aR 0 [i0,i0])) <| sB (.cmp .le i6 (aV 15) (aR 0 [i1,i1])) <| sB (.cmp .le i6 (aV 16) (aR 0 [i1,i1])) <| sB (.beq i1 (aV 17) (aV 18)) <| sI (aV 19) (sB (.lst 3 tI [[(aR 1 [i0])]]) <| sB (.app 8 (aR 1 [i1]) (aV 20)) <| sB (.bin .add i6 (aR 1 [i0]) (aI 1)) <| sN (tP tI (tS 3 tI)) [(aV 22),(aV 21)]) <| sB (.bin .add i6 (aR 1 [i0]) (aI 1)) <| sN (tP tI (tS 3 tI)) [(aV 20),(aR 1 [i1])]) <| sB (.cmp .le i6 (aV 13) (aR 0 [i1,i1])) <| sB (.cmp .le i6 (aV 14) (aR 0 [i1,i1])) <| sB (.beq i1 (aV 15) (aV 16)) <| sI (aV 17) (sB (.lst 3 tI [[(aR 1 [i0])]]) <| sB (.app 8 (aR 1 [i1]) (aV 18)) <| sB (.bin .add i6 (aR 1 [i0]) (aI 1)) <| sN (tP tI (tS 3 tI)) [(aV 20),(aV 19)]) <| sB (.bin .add i6 (aR 1 [i0]) (aI 1)) <| sN (tP tI (tS 3 tI)) [(aV 18),(aR 1 [i1])]) <| sU <| sR (tS 3 tI) [(aR 1 [i1])]
noncomputable def fn128 (x : sg128.p.den) : Option sg128.r.den := st128.den [⟨sg92.key, sg92.p, sg92.r, fn92⟩, ⟨sg37.key, sg37.p, sg37.r, fn37⟩, ⟨sg93.key, sg93.p, sg93.r, fn93⟩] [] sg128.r [⟨sg128.p, x⟩]
theorem spec128 : CallSpec Try.prog sg128 fn128 := spec (ss := [sg92, sg37, sg93]) (an := an128) (stm := st128) follows (Specs.cons spec92 (Specs.cons spec37 (Specs.cons spec93 (Specs.nil) (by kernel_rfl)) (by kernel_rfl)) (by kernel_rfl)) (by kernel_rfl) (by kernel_rfl) (fun _ => rfl)
theorem eq128 : fn128 = Pf.spec_l35Line := by kernel_rfl
-- spec.RowCut
def sg59 : Sig := ⟨59,59,[.val i1 (tP tI (tP tI (tP tI tI))),.val i0 tI],[.val i0 (tS 3 tI) i0]⟩
def an59 : Ann := ⟨20,[],[],[],[],[]⟩
def st59 : Stm := sB (.call 124 [(aR 0 [i0,i0]),(aR 0 [i0,i1,i0]),(aR 0 [i0,i1,i1,i0]),(aR 0 [i0,i1,i1,i1])]) <| sB (.not (aV 1)) <| sI (aV 2) (sR (tS 3 tI) [(.nil (tS 3 tI))]) <| sB (.bin .sub i6 (aR 0 [i0,i1,i0]) (aI 2)) <| sB (.call 125 [(aR 0 [i1]),(aI 0),(aV 3)]) <| sB (.not (aV 4)) <| sI (aV 5) (sR (tS 3 tI) [(.nil (tS 3 tI))]) <| sB (.call 128 [(aR 0 [i0,i0]),(aR 0 [i0,i1,i0]),(aR 0 [i0,i1,i1,i0]),(aR 0 [i0,i1,i1,i1]),(.bool true),(aR 0 [i1])]) <| sR (tS 3 tI) [(aV 6)]
noncomputable def fn59 (x : sg59.p.den) : Option sg59.r.den := st59.den [⟨sg124.key, sg124.p, sg124.r, fn124⟩, ⟨sg125.key, sg125.p, sg125.r, fn125⟩, ⟨sg128.key, sg128.p, sg128.r, fn128⟩] [] sg59.r [⟨sg59.p, x⟩]
theorem spec59 : CallSpec Try.prog sg59 fn59 := spec (ss := [sg124, sg125, sg128]) (an := an59) (stm := st59) follows (Specs.cons spec124 (Specs.cons spec125 (Specs.cons spec128 (Specs.nil) (by kernel_rfl)) (by kernel_rfl)) (by kernel_rfl)) (by kernel_rfl) (by kernel_rfl) (fun _ => rfl)
theorem eq59 : fn59 = Pf.spec_RowCut := by kernel_rfl
-- laws.FnExactRowCut
def sg12 : Sig := ⟨12,12,[.val i1 (tP tI (tP tI (tP tI tI))),.val i0 tI],[.val i0 tB i1]⟩
def an12 : Ann := ⟨49,[],[],[],[],[]⟩
def st12 : Stm := sB (.call 26 [(aR 0 [i0,i0]),(aR 0 [i0,i1,i0]),(aR 0 [i0,i1,i1,i0]),(aR 0 [i0,i1,i1,i1])]) <| sB (.call 59 [(aR 1 [i0]),(aR 1 [i1,i0]),(aR 1 [i1,i1,i0]),(aR 1 [i1,i1,i1]),(aR 0 [i1])]) <| sB (.call 26 [(aR 0 [i0,i0]),(aR 0 [i0,i1,i0]),(aR 0 [i0,i1,i1,i0]),(aR 0 [i0,i1,i1,i1])]) <| sB (.call 60 [(aR 3 [i0]),(aR 3 [i1,i0]),(aR 3 [i1,i1,i0]),(aR 3 [i1,i1,i1]),(aR 0 [i1])]) <| sB (.call 35 [(aV 4),(aV 2)]) <| sB (.not (aV 5)) <| sI (aV 6) (sR tB [(.bool false)]) <| sB (.call 39 [(aV 4),(aI 1)]) <| sB (.call 40 [(aR 7 [i1]),(aI 1)]) <| sB (.cmp .lt i6 (aV 8) (aI 0)) <| sI (aV 9) (sR tB [(.bool false)]) <| sB (.cmp .ne i6 (aV 8) (aR 7 [i0])) <| sI (aV 10) (sR tB [(.bool false)]) <| sB (.call 26 [(aR 0 [i0,i0]),(aR 0 [i0,i1,i0]),(aR 0 [i0,i1,i1,i0]),(aR 0 [i0,i1,i1,i1])]) <| sB (.call 60 [(aR 11 [i0]),(aR 11 [i1,i0]),(aR 11 [i1,i1,i0]),(aR 11 [i1,i1,i1]),(aR 0 [i1])]) <| sB (.call 35 [(aV 12),(aV 2)]) <| sB (.not (aV 13)) <| sI (aV 14) (sR tB [(.bool false)]) <| sB (.call 40 [(aR 7 [i1]),(aI 1)]) <| sB (.cmp .lt i6 (aV 15) (aI 0)) <| sI (aV 16) (sR tB [(.bool false)]) <| sB (.cmp .ne i6 (aV 15) (aR 7 [i0])) <| sI (aV 17) (sR tB [(.bool false)]) <| sR tB [(.bool true)]
noncomputable def fn12 (x : sg12.p.den) : Option sg12.r.den := st12.den [⟨sg26.key, sg26.p, sg26.r, fn26⟩, ⟨sg59.key, sg59.p, sg59.r, fn59⟩, ⟨sg60.key, sg60.p, sg60.r, fn60⟩, ⟨sg35.key, sg35.p, sg35.r, fn35⟩, ⟨sg39.key, sg39.p, sg39.r, fn39⟩, ⟨sg40.key, sg40.p, sg40.r, fn40⟩] [] sg12.r [⟨sg12.p, x⟩]
theorem spec12 : CallSpec Try.prog sg12 fn12 := spec (ss := [sg26, sg59, sg60, sg35, sg39, sg40]) (an := an12) (stm := st12) follows (Specs.cons spec26 (Specs.cons spec59 (Specs.cons spec60 (Specs.cons spec35 (Specs.cons spec39 (Specs.cons spec40 (Specs.nil) (by kernel_rfl)) (by kernel_rfl)) (by kernel_rfl)) (by kernel_rfl)) (by kernel_rfl)) (by kernel_rfl)) (by kernel_rfl) (by kernel_rfl) (fun _ => rfl)
theorem eq12 : fn12 = Pf.laws_FnExactRowCut := by kernel_rfl
end Go.Proofs.Ytfkaffmfhnkebaa
