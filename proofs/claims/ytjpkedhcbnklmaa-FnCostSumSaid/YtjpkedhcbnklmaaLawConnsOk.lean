/-
  Own work. The law of connections, plainly: it says true.
-/
import Derived.Test.YtjpkedhcbnklmaaHlp
import Derived.Test.YtjpkedhcbnklmaaDvc
namespace Go.Pf
open Go Go.Pu
def pinP (n:Int) (p:Pin):Prop:=(0<=p.1/\p.1<n)/\(0<=p.2/\p.2<=4)
instance (n:Int) (p:Pin):Decidable (pinP n p):=by unfold pinP;exact inferInstance
theorem pin_impl (n:Int) (p:Pin) (hn: -9223372036854775807<=n) (hn2:n<=9223372036854775807):impl_pinOk (n,p)=some (decide (pinP n p)):=by
  unfold impl_pinOk
  simp only [inR_impl,Option.bind_some]
  rw [wrap_ok (by omega)]
  by_cases h1:0<=p.1/\p.1<=n - 1
  · rw [dt h1,cond_true]
    congr 1
    rw [decide_eq_decide]
    exact ⟨fun e=>⟨by omega,e⟩,fun e=>e.2⟩
  · rw [df h1,df (show ¬pinP n p from fun e=>h1 (by have:=e.1;omega))];rfl
def cnP (n:Int) (c:Conn):Bool:=decide ((1<=c.2.2.length/\c.2.2.length<=120)/\pinP n c.2.1) && c.2.2.all (fun p=>decide (pinP n p))
def cnsP (n:Int) (cs:List Conn):Bool:=decide ((0<=n/\n<=64)/\cs.length<=100) && cs.all (cnP n)
theorem cns_impl (n:Int) (cs:List Conn):impl_ConnsOk (n,cs)=some (cnsP n cs):=by
  unfold impl_ConnsOk cnsP
  dsimp only
  rw [inR_impl]
  simp only [Option.bind_some]
  by_cases h1:0<=n/\n<=64
  · rw [dt h1]
    simp only [Bool.not_true,cond_false]
    by_cases h2:cs.length<=100
    · rw [df (by omega),cond_false,dt ⟨h1,h2⟩,Bool.true_and]
      have key:∀k (hk:k<cs.length),(bif decide ((k:Int)<(cs.length:Int)) then
      (gget (0,((0,0),[])) cs (k:Int)).bind fun v8=>
      let v9:Int:=((v8.2.2).length:Int)
      (impl_inRange (v9,(1,120))).bind fun v10=>
      let v11:Bool:= !v10
      bif v11 then (
        Option.map Sum.inr (
          some false)) else
      (impl_pinOk (n,v8.2.1)).bind fun v12=>
      let v13:Bool:= !v12
      bif v13 then (
        Option.map Sum.inr (
          some false)) else
      let v14:Int:=((v8.2.2).length:Int)
      Pu.loop (fun (v15:Int)=>
        let v16:Bool:=decide (v15<v14)
        bif v16 then (
          (gget (0,0) v8.2.2 v15).bind fun v17=>
          (impl_pinOk (n,v17)).bind fun v18=>
          let v19:Bool:= !v18
          bif v19 then (
            Option.map Sum.inr (
              Option.map Sum.inr (
                some false))) else
          let v20:Int:=wrap .i64 (v15+1)
          some (.inl v20)) else
        Option.map Sum.inr (
          let v17:Int:=wrap .i64 ((k:Int)+1)
          some (.inl v17))) 0 else
    Option.map Sum.inr (
      some true))=some (bif cnP n cs[k] then Sum.inl ((k+1:Nat):Int) else Sum.inr false):=by
        intro k hk
        rw [dt (by omega),cond_true,gget_nat hk]
        simp only [Option.bind_some]
        rw [inR_impl,pin_impl _ _ (by omega) (by omega)]
        simp only [Option.bind_some]
        unfold cnP
        by_cases q1:1<=(cs[k]).2.2.length/\(cs[k]).2.2.length<=120
        · rw [dt (by omega)]
          simp only [Bool.not_true,cond_false]
          by_cases q2:pinP n (cs[k]).2.1
          · rw [dt q2,dt ⟨q1,q2⟩]
            simp only [Bool.not_true,cond_false,Bool.true_and]
            refine Eq.trans (loop_all (cs[k]).2.2.length (fun j:Nat=>(j:Int)) (fun j=>if h:j<(cs[k]).2.2.length then decide (pinP n (cs[k]).2.2[j]) else true) (Sum.inr false) (Sum.inl (wrap .i64 ((k:Int)+1))) (fun j hj hok=> ?_) (fun j hj hok=> ?_) ?_) ?_
            · rw [dif_pos hj] at hok
              try dsimp only
              rw [dt (by omega),cond_true,gget_nat hj]
              simp only [Option.bind_some]
              rw [pin_impl _ _ (by omega) (by omega),hok]
              simp only [Option.bind_some,Bool.not_true,cond_false]
              rw [wrap_ok (by omega)];rfl
            · rw [dif_pos hj] at hok
              try dsimp only
              rw [dt (by omega),cond_true,gget_nat hj]
              simp only [Option.bind_some]
              rw [pin_impl _ _ (by omega) (by omega),hok];rfl
            · try dsimp only
              rw [df (by omega),cond_false];rfl
            · rw [all_range_list (cs[k]).2.2 (fun p=>decide (pinP n p)) _ (fun j hj=>by rw [dif_pos hj]),wrap_ok (by omega)]
              cases (cs[k]).2.2.all (fun p=>decide (pinP n p))<;>rfl
          · rw [df q2,df (show ¬((1<=(cs[k]).2.2.length/\(cs[k]).2.2.length<=120)/\pinP n (cs[k]).2.1) from fun e=>q2 e.2)];rfl
        · rw [df (show ¬((1:Int)<=((cs[k]).2.2.length:Int)/\((cs[k]).2.2.length:Int)<=120) by omega),df (show ¬((1<=(cs[k]).2.2.length/\(cs[k]).2.2.length<=120)/\pinP n (cs[k]).2.1) from fun e=>q1 e.1)];rfl
      refine Eq.trans (loop_all cs.length (fun k:Nat=>(k:Int)) (fun k=>if h:k<cs.length then cnP n cs[k] else true) false true (fun k hk hok=> ?_) (fun k hk hok=> ?_) ?_) ?_
      · rw [dif_pos hk] at hok
        have:=key k hk
        rw [hok] at this
        exact this
      · rw [dif_pos hk] at hok
        have:=key k hk
        rw [hok] at this
        exact this
      · rw [df (by omega),cond_false];rfl
      · rw [all_range_list cs (cnP n) _ (fun k hk=>by rw [dif_pos hk])]
        cases cs.all (cnP n)<;>rfl
    · rw [dt (by omega),cond_true,df (fun e=>h2 e.2)];rfl
  · rw [df h1]
    simp only [Bool.not_false,cond_true]
    rw [df (fun e=>h1 e.1)];rfl
end Go.Pf
