/-
  Own work. The law of a placement's cost as a sum, plainly: it says true.
-/
import Derived.Test.YtjpkedhcbnklmaaNtj
namespace Go.Pf
open Go Go.Pu
set_option linter.unusedVariables false
def absP (x:Int):Int:=if x<0 then -x else x
theorem abs26 {x:Int} (h: -1000000<=x/\x<=1000000):spec_l26Abs x=some (absP x):=by
  unfold spec_l26Abs absP
  dsimp only
  by_cases c:x<0
  · rw [dt c,cond_true,if_pos c,wrap_ok (z:=0 - x) (by omega)]
    congr 1;omega
  · rw [df c,cond_false,if_neg c]
theorem ginI {n:Nat} {i:Int} (h0:0<=i) (h1:i<(n:Int)):gin n i=some ():=by unfold Pu.gin;rw [if_pos ⟨h0,h1⟩]
def distP (d:Dev) (a b:Int):Int:=absP (a % d.1 - b % d.1)+absP (a/d.1 - b/d.1)
theorem dist_spec {d:Dev} {a b:Int} (ha:0<=tk d a) (hb:0<=tk d b):spec_TileDistance (d,(a,b))=some (distP d a b):=by
  have ha2:=tk_ok ha
  have hb2:=tk_ok hb
  obtain ⟨⟨a0,a1⟩,⟨a2,a3⟩⟩:=tile_co ha2
  obtain ⟨⟨b0,b1⟩,⟨b2,b3⟩⟩:=tile_co hb2
  have hw:=ha2.1.1
  have hh:=ha2.1.2.1
  have hm:=mul_le36 hw hh
  unfold spec_TileDistance distP
  dsimp only
  rw [tk_spec d a (by omega),tk_spec d b (by omega)]
  simp only [Option.bind_some]
  rw [df (by omega),cond_false,df (by omega),cond_false,grem_nn (a:=a) (by omega) (by omega),grem_nn (a:=b) (by omega) (by omega),gdiv_nn (a:=a) (by omega) (by omega) (by omega),gdiv_nn (a:=b) (by omega) (by omega) (by omega)]
  simp only [Option.bind_some]
  generalize a % d.1=x1 at*
  generalize b % d.1=x2 at*
  generalize a/d.1=y1 at*
  generalize b/d.1=y2 at*
  rw [wrap_ok (z:=x1 - x2) (by omega),wrap_ok (z:=y1 - y2) (by omega),abs26 (by omega),abs26 (by omega)]
  simp only [Option.bind_some]
  rw [wrap_ok]
  unfold absP
  split<;>split<;>omega
theorem box_ok (d:Dev) (ps:List Int) (hd:DOk d):∀(ns:List Pin) (s:Int×(Int×(Int×Int))),(∀p∈ns,pinIn d ps p)->(0<=s.1/\s.1<=6∧-1<=s.2.1/\s.2.1<=5/\0<=s.2.2.1/\s.2.2.1<=6∧-1<=s.2.2.2/\s.2.2.2<=5)->
    let t:=ns.foldl (spS d ps) s
    (0<=t.1/\t.1<=s.1/\s.2.1<=t.2.1/\t.2.1<=5/\0<=t.2.2.1/\t.2.2.1<=s.2.2.1/\s.2.2.2<=t.2.2.2/\t.2.2.2<=5)/\∀p∈ns,(t.1<=psV ps p.1 % d.1/\psV ps p.1 % d.1<=t.2.1)/\(t.2.2.1<=psV ps p.1/d.1/\psV ps p.1/d.1<=t.2.2.2)
  | [],s,_,hs=>by
    refine ⟨?_,fun p hp=>by cases hp⟩
    simp only [List.foldl_nil];omega
  | p::ns,s,hp,hs=>by
    have hq:=hp p (by simp)
    obtain ⟨⟨x0,x1⟩,⟨y0,y1⟩⟩:=tile_co (tk_ok hq.2)
    have hw:=hd.1
    have hh:=hd.2.1
    have hs' :(0<=(spS d ps s p).1/\(spS d ps s p).1<=s.1/\(spS d ps s p).1<=psV ps p.1 % d.1)/\(s.2.1<=(spS d ps s p).2.1/\psV ps p.1 % d.1<=(spS d ps s p).2.1/\(spS d ps s p).2.1<=5)/\(0<=(spS d ps s p).2.2.1/\(spS d ps s p).2.2.1<=s.2.2.1/\(spS d ps s p).2.2.1<=psV ps p.1/d.1)/\(s.2.2.2<=(spS d ps s p).2.2.2/\psV ps p.1/d.1<=(spS d ps s p).2.2.2/\(spS d ps s p).2.2.2<=5):=by
      unfold spS
      dsimp only
      generalize psV ps p.1 % d.1=x at*
      generalize psV ps p.1/d.1=y at*
      refine ⟨?_,?_,?_,?_⟩<;>split<;>omega
    obtain ⟨h1,h2,h3,h4⟩:=hs'
    have ih:=box_ok d ps hd ns (spS d ps s p) (fun q hq=>hp q (by simp [hq])) (by omega)
    simp only [List.foldl_cons]
    obtain ⟨i1,i2⟩:=ih
    refine ⟨by omega,fun q hq=> ?_⟩
    rcases List.mem_cons.1 hq with e | e
    · subst e;omega
    · exact i2 q e
theorem span_box {d:Dev} {ps:List Int} {c:Conn} (hd:DOk d) (h:∀p∈c.2.1::c.2.2,pinIn d ps p):(0<=spanP d ps c/\spanP d ps c<=10)/\∀p∈c.2.2,distP d (psV ps c.2.1.1) (psV ps p.1)<=spanP d ps c:=by
  have hb:=box_ok d ps hd (c.2.1::c.2.2) (6,(-1,(6,-1))) h (by simp only;omega)
  unfold spanP
  rw [if_pos ⟨hd,List.all_eq_true.2 fun p hp=>decide_eq_true (h p hp)⟩]
  unfold spT
  rw [List.take_length]
  generalize (c.2.1::c.2.2).foldl (spS d ps) (6,(-1,(6,-1)))=t at*
  obtain ⟨b1,b2⟩:=hb
  have b0:=b2 c.2.1 (by simp)
  unfold spFin
  simp only at b1
  rw [wrap_ok (z:=t.2.1 - t.1) (by omega),wrap_ok (z:=t.2.1 - t.1+t.2.2.2) (by omega),wrap_ok (by omega)]
  refine ⟨by omega,fun p hp=> ?_⟩
  have b3:=b2 p (by simp [hp])
  unfold distP absP
  split<;>split<;>omega
theorem PD.pin {d:Dev} {ks:List Int} {cs:List Conn} {ps:List Int} (h:PD d ks cs ps) {p:Pin} (hp:pinP (ks.length:Int) p):pinIn d ps p:=by
  have hl:=h.pl.len
  have h1:=hp.1
  refine ⟨by omega,h.pl.ge _ ?_⟩
  unfold psV
  exact getD_mem (by omega)
theorem PD.tile {d:Dev} {ks:List Int} {cs:List Conn} {ps:List Int} (h:PD d ks cs ps):∀p∈ps,0<=p/\p<=36:=fun p hp=>by
  have h1:=tk_lt' (h.pl.ge p hp)
  have hm:=mul_le36 h.dev.1 h.dev.2.1
  omega
theorem law_FnCostSum (x:List Int) (h:InR (tS 0 (.int .u8)) x):laws_FnCostSum x=some true:=by
  unfold laws_FnCostSum
  rw [big_ok]
  simp only [Option.bind_some]
  by_cases hb:1048576<(x.length:Int)
  · rw [dt hb];rfl
  rw [df hb,cond_false]
  obtain ⟨⟨d,ks,cs,ps⟩,e,hp⟩:=placed_tot (b:=x) (by unfold CdOk;omega)
  rw [e]
  simp only at hp
  simp only [Option.bind_some]
  have hpl:=hp.pl.len
  have hkl:=hp.len
  have hple:∀p∈ps,p<=9223372036854775807:=fun p hq=>by have:=hp.tile p hq;omega
  have hc:=hp.cns
  obtain ⟨_,hcl⟩:=cnsP_len hc
  refine loop_upto cs.length (fun k=>(csum d ps cs k,(k:Int))) (fun k hk=> ?_) ?_
  · try dsimp only
    have hm:=cnsP_mem hc (List.getElem_mem hk)
    have hsp:=span_box (c:=cs[k]) hp.dev (fun p hq=>by
      rcases List.mem_cons.1 hq with q | q
      · rw [q];exact hp.pin hm.2.1
      · exact hp.pin (hm.2.2 p q))
    rw [dt (by omega),cond_true,gin_nat hk,gget_nat hk]
    simp only [Option.bind_some]
    rw [span_impl d ps cs[k] hple (by omega) (by omega)]
    simp only [Option.bind_some]
    rw [<-csum_succ d ps cs k hk]
    refine loop_upto (cs[k]).2.2.length (fun j=>(j:Int)) (fun j hj=> ?_) ?_
    · try dsimp only
      have hs:=hm.2.2 _ (List.getElem_mem hj)
      have p1:=hp.pin hm.2.1
      have p2:=hp.pin hs
      have hle:=hsp.2 _ (List.getElem_mem hj)
      rw [dt (by omega),cond_true,ginI p1.1.1 p1.1.2,gget_some p1.1.1 p1.1.2,gget_nat hj]
      simp only [Option.bind_some]
      rw [ginI p2.1.1 p2.1.2,gget_some p2.1.1 p2.1.2]
      have ed:=dist_spec p1.2 p2.2
      unfold psV at ed hle
      simp only [Option.bind_some]
      rw [ed]
      simp only [Option.bind_some]
      rw [df (by omega),cond_false,wrap_ok (by omega)];rfl
    · try dsimp only
      rw [df (by omega),cond_false,wrap_ok (by omega)];rfl
  · try dsimp only
    rw [df (by omega),cond_false,cost_impl d ps cs hple]
    have hcost:costP d ps cs=csum d ps cs cs.length:=by
      unfold costP
      rw [hpl,if_pos hc,if_pos (List.all_eq_true.2 fun c hcm=>decide_eq_true ?_)]
      have hm:=cnsP_mem hc hcm
      exact (span_box (c:=c) hp.dev (fun p hq=>by
        rcases List.mem_cons.1 hq with q | q
        · rw [q];exact hp.pin hm.2.1
        · exact hp.pin (hm.2.2 p q))).1.1
    simp only [Option.bind_some]
    rw [dt hcost,cond_true,place_impl d ks ps hple,hp.place]
    simp only [Option.bind_some]
    rw [cond_true,cns_impl,hc];rfl
end Go.Pf
