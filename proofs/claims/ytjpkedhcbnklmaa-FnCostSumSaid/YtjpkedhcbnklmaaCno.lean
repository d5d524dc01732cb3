/-
  Own work. The connections of a packing, plainly.
-/
import Derived.Test.YtjpkedhcbnklmaaMkh
import Derived.Test.YtjpkedhcbnklmaaMcs
namespace Go.Pf
open Go Go.Pu
set_option linter.unusedVariables false
def mtA (x p:Int) (xs:List Int) (acc:List Pin):Nat->List Pin
  | 0=>acc
  | j+1=>if nsAt xs j=x then mtA x p xs acc j++[(p,(j:Int))] else mtA x p xs acc j
theorem mtA_len (x p:Int) (xs:List Int) (acc:List Pin) (j:Nat):(mtA x p xs acc j).length<=acc.length+j:=by
  induction j with
  | zero=>exact Nat.le_refl _
  | succ j ih=>
    show (if nsAt xs j=x then mtA x p xs acc j++[(p,(j:Int))] else mtA x p xs acc j).length<=_
    split
    · rw [List.length_append];simp only [List.length_cons,List.length_nil];omega
    · omega
def skA (x:Int) (PS:List (List Int)):Nat->List Pin
  | 0=>[]
  | p+1=>mtA x (p:Int) (gAt PS p) (skA x PS p) (gAt PS p).length
def PsOk (PS:List (List Int)):Prop:=PS.length<=64/\∀p,p<PS.length->(gAt PS p).length<=433
theorem skA_len {x:Int} {PS:List (List Int)} (h:PsOk PS) (p:Nat) (hp:p<=PS.length):(skA x PS p).length<=433*p:=by
  induction p with
  | zero=>simp [skA]
  | succ p ih=>
    have h1:=ih (by omega)
    have h2:=mtA_len x (p:Int) (gAt PS p) (skA x PS p) (gAt PS p).length
    have h3:=h.2 p (by omega)
    show (mtA x (p:Int) (gAt PS p) (skA x PS p) (gAt PS p).length).length<=_
    omega
theorem gAt_get {PS:List (List Int)} {p:Nat} (h:p<PS.length):gget ([]:List Int) PS (p:Int)=some (gAt PS p):=by
  unfold gAt
  rw [gget_nat h,List.getD,List.getElem?_eq_getElem h];rfl
def cnA (PS:List (List Int)) (b:Int) (os:List Int) (acc:List Conn):Nat->List Conn
  | 0=>acc
  | j+1=>if 0<((skA (nsAt os j) PS PS.length).length:Int) then cnA PS b os acc j++[(nsAt os j,((b,(j:Int)),skA (nsAt os j) PS PS.length))] else cnA PS b os acc j
theorem cnA_len (PS:List (List Int)) (b:Int) (os:List Int) (acc:List Conn) (j:Nat):(cnA PS b os acc j).length<=acc.length+j:=by
  induction j with
  | zero=>exact Nat.le_refl _
  | succ j ih=>
    show (if 0<((skA (nsAt os j) PS PS.length).length:Int) then cnA PS b os acc j++[(nsAt os j,((b,(j:Int)),skA (nsAt os j) PS PS.length))] else cnA PS b os acc j).length<=_
    split
    · rw [List.length_append];simp only [List.length_cons,List.length_nil];omega
    · omega
def ctA (n:Net) (bs:List Blk) (PS:List (List Int)):Nat->List Conn
  | 0=>[]
  | b+1=>cnA PS (b:Int) (outN n (bkAt bs b)) (ctA n bs PS b) (outN n (bkAt bs b)).length
def psA (n:Net) (bs:List Blk) (k:Nat):List (List Int):=(bs.take k).map (pinN n)
theorem psA_len (n:Net) (bs:List Blk) {k:Nat} (h:k<=bs.length):(psA n bs k).length=k:=by unfold psA;simp;omega
theorem psA_succ (n:Net) (bs:List Blk) {k:Nat} (h:k<bs.length):psA n bs (k+1)=psA n bs k++[pinN n (bkAt bs k)]:=by
  have e:bkAt bs k=bs[k]:=by unfold bkAt;rw [List.getD,List.getElem?_eq_getElem h];rfl
  unfold psA
  rw [take_succ' bs k h,List.map_append,e];rfl
def connsP (n:Net) (bs:List Blk):List Conn:=if packP n bs=true then ctA n bs (psA n bs bs.length) bs.length else []
theorem packP_all {n:Net} {bs:List Blk} (h:packP n bs=true):netP n=true/\bs.length<=64/\∀k,k<bs.length->bkOk n (bkAt bs k)=true:=by
  unfold packP at h
  simp only [Bool.and_eq_true,decide_eq_true_eq,List.all_eq_true] at h
  exact ⟨h.1,h.2.1,fun k hk=>h.2.2.1 _ (bk_get hk).2⟩
theorem bkOk_item {n:Net} {b:Blk} (h:bkOk n b=true):itemP n b=true:=by
  unfold bkOk at h
  rw [Bool.and_eq_true] at h
  exact h.1
theorem bkOk_len {n:Net} {b:Blk} (h:bkOk n b=true):b.2.2.length<=2:=by
  unfold bkOk at h
  rw [Bool.and_eq_true] at h
  have h2:=h.2
  unfold blk0 at h2
  split at h2
  · have:=of_decide_eq_true h2;omega
  · have:=of_decide_eq_true h2;omega
theorem outN_len {n:Net} {b:Blk} (h:bkOk n b=true):(outN n b).length<=2:=by
  have h2:=bkOk_len h
  unfold outN
  split
  · simp
  split
  · simp
  split
  · simp
  · exact Nat.le_trans (outsL_len n b.2.2 _) h2
theorem psA_ok {n:Net} {bs:List Blk} (h:packP n bs=true):PsOk (psA n bs bs.length):=by
  obtain ⟨hn,hl,hk⟩:=packP_all h
  refine ⟨by rw [psA_len n bs (Nat.le_refl _)];exact hl,fun p hp=> ?_⟩
  rw [psA_len n bs (Nat.le_refl _)] at hp
  have e:gAt (psA n bs bs.length) p=pinN n (bkAt bs p):=by
    have e:bkAt bs p=bs[p]:=by unfold bkAt;rw [List.getD,List.getElem?_eq_getElem hp];rfl
    unfold gAt psA
    rw [List.take_length,List.getD,List.getElem?_map,List.getElem?_eq_getElem hp,e];rfl
  rw [e]
  exact pinN_len hn (bkOk_item (hk p hp))
theorem ctA_len {n:Net} {bs:List Blk} (h:packP n bs=true) (PS:List (List Int)) (k:Nat) (hk:k<=bs.length):(ctA n bs PS k).length<=2*k:=by
  induction k with
  | zero=>simp [ctA]
  | succ k ih=>
    have h1:=ih (by omega)
    have h2:=outN_len ((packP_all h).2.2 k (by omega))
    have h3:=cnA_len PS (k:Int) (outN n (bkAt bs k)) (ctA n bs PS k) (outN n (bkAt bs k)).length
    show (cnA PS (k:Int) (outN n (bkAt bs k)) (ctA n bs PS k) (outN n (bkAt bs k)).length).length<=_
    omega
theorem mapS {α β:Type} {X:Option β} {o:β} (h:X=some o):Option.map (Sum.inr:β->α⊕β) X=some (.inr o):=by rw [h];rfl
theorem gapp24 {xs ys:List (List Int)} (h:xs.length+ys.length<=1000000000):gapp 24 xs ys=some (xs++ys):=gapp_some (by omega) (by omega)
theorem gapp16p {xs ys:List Pin} (h:xs.length+ys.length<=1000000000):gapp 16 xs ys=some (xs++ys):=gapp_some (by omega) (by omega)
theorem gapp48 {xs ys:List Conn} (h:xs.length+ys.length<=1000000000):gapp 48 xs ys=some (xs++ys):=gapp_some (by omega) (by omega)
theorem conns_spec (n:Net) (bs:List Blk) (hb:NetB n) (hs:BksB bs):spec_ConnsOf (n,bs)=some (connsP n bs):=by
  unfold spec_ConnsOf connsP
  rw [pack_spec n bs hb hs]
  simp only [Option.bind_some]
  cases hp:packP n bs with
  | false=>rfl
  | true=>
    obtain ⟨hn,hl,hk⟩:=packP_all hp
    rw [Bool.not_true,cond_false,if_pos rfl]
    have both2:∀k,k<bs.length->(netP n && itemP n (bkAt bs k))=true:=fun k hkl=>by rw [hn,bkOk_item (hk k hkl)];rfl
    refine loop_upto bs.length (fun k=>((k:Int),psA n bs k)) (fun k hkl=> ?_) ?_
    · obtain ⟨g1,g2⟩:=bk_get hkl
      have hpl:=psA_len n bs (show k<=bs.length by omega)
      try dsimp only
      rw [dt (show (k:Int)<(bs.length:Int) by omega),cond_true,g1]
      simp only [Option.bind_some]
      rw [pinNodes_spec n _ hb (hs.at g2),if_pos (both2 k hkl)]
      simp only [Option.bind_some]
      rw [gapp24 (by simp only [List.length_cons,List.length_nil];omega),<-psA_succ n bs hkl]
      simp only [Option.bind_some]
      rw [wrap_ok (by omega)];rfl
    · have hPS:=psA_ok hp
      generalize psA n bs bs.length=PS at*
      try dsimp only
      rw [df (show ¬(bs.length:Int)<(bs.length:Int) by omega),cond_false]
      refine mapS ?_
      refine loop_upto bs.length (fun k=>((k:Int),ctA n bs PS k)) (fun k hkl=> ?_) ?_
      · obtain ⟨g1,g2⟩:=bk_get hkl
        have hol:=outN_len (hk k hkl)
        have hct:=ctA_len hp PS k (by omega)
        try dsimp only
        rw [dt (show (k:Int)<(bs.length:Int) by omega),cond_true,g1]
        simp only [Option.bind_some]
        rw [outN_spec n _ hb (hs.at g2),if_pos (both2 k hkl)]
        simp only [Option.bind_some]
        show _=some (Sum.inl (((k+1:Nat):Int),cnA PS (k:Int) (outN n (bkAt bs k)) (ctA n bs PS k) (outN n (bkAt bs k)).length))
        generalize outN n (bkAt bs k)=os at*
        generalize ctA n bs PS k=acc at*
        refine loop_upto os.length (fun j=>((j:Int),cnA PS (k:Int) os acc j)) (fun j hj=> ?_) ?_
        · have hcl:=cnA_len PS (k:Int) os acc j
          try dsimp only
          rw [dt (show (j:Int)<(os.length:Int) by omega),cond_true,gin_nat hj,nsAt_get hj]
          simp only [Option.bind_some]
          show _=some (Sum.inl (((j+1:Nat):Int),if 0<((skA (nsAt os j) PS PS.length).length:Int) then cnA PS (k:Int) os acc j++[(nsAt os j,(((k:Int),(j:Int)),skA (nsAt os j) PS PS.length))] else cnA PS (k:Int) os acc j))
          generalize nsAt os j=x at*
          generalize cnA PS (k:Int) os acc j=cs at*
          refine loop_upto PS.length (fun p=>((p:Int),skA x PS p)) (fun p hpp=> ?_) ?_
          · have hsl:=skA_len (x:=x) hPS p (by omega)
            have hpl:=hPS.2 p hpp
            have hPl:=hPS.1
            try dsimp only
            rw [dt (show (p:Int)<(PS.length:Int) by omega),cond_true]
            show _=some (Sum.inl (((p+1:Nat):Int),mtA x (p:Int) (gAt PS p) (skA x PS p) (gAt PS p).length))
            refine loop_upto (gAt PS p).length (fun i=>((i:Int),mtA x (p:Int) (gAt PS p) (skA x PS p) i)) (fun i hi=> ?_) ?_
            · have hml:=mtA_len x (p:Int) (gAt PS p) (skA x PS p) i
              try dsimp only
              rw [gin_nat hpp,gAt_get hpp]
              simp only [Option.bind_some]
              rw [dt (show (i:Int)<((gAt PS p).length:Int) by omega),cond_true,nsAt_get hi]
              simp only [Option.bind_some]
              show _=some (Sum.inl (((i+1:Nat):Int),if nsAt (gAt PS p) i=x then mtA x (p:Int) (gAt PS p) (skA x PS p) i++[((p:Int),(i:Int))] else mtA x (p:Int) (gAt PS p) (skA x PS p) i))
              by_cases c:nsAt (gAt PS p) i=x
              · rw [dt c,cond_true,if_pos c,gapp16p (by simp only [List.length_cons,List.length_nil];omega)]
                simp only [Option.bind_some]
                rw [wrap_ok (by omega)];rfl
              · rw [df c,cond_false,if_neg c,wrap_ok (by omega)];rfl
            · try dsimp only
              rw [gin_nat hpp,gAt_get hpp]
              simp only [Option.bind_some]
              rw [df (show ¬((gAt PS p).length:Int)<((gAt PS p).length:Int) by omega),cond_false,wrap_ok (by omega)];rfl
          · have hsl:=skA_len (x:=x) hPS PS.length (by omega)
            have hPl:=hPS.1
            generalize skA x PS PS.length=sk at*
            try dsimp only
            rw [df (show ¬(PS.length:Int)<(PS.length:Int) by omega),cond_false]
            by_cases c:0<(sk.length:Int)
            · rw [dt c,cond_true,if_pos c,gapp48 (by simp only [List.length_cons,List.length_nil];omega)]
              simp only [Option.bind_some]
              rw [wrap_ok (by omega)];rfl
            · rw [df c,cond_false,if_neg c,wrap_ok (by omega)];rfl
        · try dsimp only
          rw [df (show ¬(os.length:Int)<(os.length:Int) by omega),cond_false,wrap_ok (by omega)];rfl
      · try dsimp only
        rw [df (show ¬(bs.length:Int)<(bs.length:Int) by omega),cond_false];rfl
end Go.Pf
