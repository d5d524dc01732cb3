/-
  Own work: parts PuK, PuL, PuM, PuN, PuO, PuP, PuQ, PuR, PuS, PuFz, PuT, PuU, PuV of my verified compiler.
-/
import Derived.Test.YtjpkedhcbnklmaaPu0
import Derived.Laws.Tables
import Derived.LoopN
/-
  Own work. New blocks: variables, boxes, made slices; which roots a state speaks of.
-/
namespace Go.Pu
open Go Go.RowKit
set_option linter.unusedVariables false
def plOf (ph:Nat->Bool)(l:Loc):Prop:=ph l.1=true
def prOf (pr:Nat->Bool)(rg:Rg):Prop:=∀r,rg=some r->pr r=true
section
variable {ph pr:Nat->Bool} {pl:Loc->Prop} {prr:Rg->Prop}
theorem enc_ok {rg:Rg}(hr:prr rg):∀(t:Ty) (x:t.den) (k:Nat) (q:C),(enc rg t x)[k]? =some q->C.Ok pl prr q
 | .int kd,x,k,q,h=>by
  have hk:k=0:=by have:=(List.getElem?_eq_some_iff.1 h).1;simp[enc]at this;exact this
  subst hk;simp only[enc,List.getElem?_cons_zero,Option.some.injEq]at h;subst h;exact .int _ _
 | .bool,x,k,q,h=>by
  have hk:k=0:=by have:=(List.getElem?_eq_some_iff.1 h).1;simp[enc]at this;exact this
  subst hk;simp only[enc,List.getElem?_cons_zero,Option.some.injEq]at h;subst h;exact .bool _
 | .unit,x,k,q,h=>by simp[enc]at h
 | .pr a b,x,k,q,h=>by
  simp only[enc,List.getElem?_append]at h;split at h
  ·exact enc_ok hr a x.1 k q h
  ·exact enc_ok hr b x.2 _ q h
 | .sl e a,xs,k,q,h=>by
  have hk:k=0:=by have:=(List.getElem?_eq_some_iff.1 h).1;simp[enc]at this;exact this
  subst hk;simp only[enc,List.getElem?_cons_zero,Option.some.injEq]at h;subst h
  refine .ro rg _ (fun _=>hr) fun i cs k q h1 h2=> ?_
  rw[List.getElem?_map,Option.map_eq_some_iff]at h1;obtain⟨y,_,rfl⟩:=h1;exact enc_ok hr a y k q h2
 | .mp,x,k,q,h=>by
  have hk:k=0:=by have:=(List.getElem?_eq_some_iff.1 h).1;simp[enc]at this;exact this
  subst hk;simp only[enc,List.getElem?_cons_zero,Option.some.injEq]at h;subst h;exact .gone
theorem encE_ok {r i:Nat}(hl:∀k,pl (r,[(i,k)])):∀(t:Ty) (k0:Nat) (x:t.den) (k:Nat) (q:C),(encE r i k0 t x)[k]? =some q->C.Ok pl prr q
 | .int kd,k0,x,k,q,h=>by
  have hk:k=0:=by have:=(List.getElem?_eq_some_iff.1 h).1;simp[encE]at this;exact this
  subst hk;simp only[encE,List.getElem?_cons_zero,Option.some.injEq]at h;subst h;exact .int _ _
 | .bool,k0,x,k,q,h=>by
  have hk:k=0:=by have:=(List.getElem?_eq_some_iff.1 h).1;simp[encE]at this;exact this
  subst hk;simp only[encE,List.getElem?_cons_zero,Option.some.injEq]at h;subst h;exact .bool _
 | .unit,k0,x,k,q,h=>by simp[encE]at h
 | .pr a b,k0,x,k,q,h=>by
  simp only[encE,List.getElem?_append]at h;split at h
  ·exact encE_ok hl a k0 x.1 k q h
  ·exact encE_ok hl b _ x.2 _ q h
 | .sl e a,k0,xs,k,q,h=>by
  have hk:k=0:=by have:=(List.getElem?_eq_some_iff.1 h).1;simp[encE]at this;exact this
  subst hk;simp only[encE,List.getElem?_cons_zero,Option.some.injEq]at h;subst h
  exact .hd _ (hl k0)
 | .mp,k0,x,k,q,h=>by
  have hk:k=0:=by have:=(List.getElem?_eq_some_iff.1 h).1;simp[encE]at this;exact this
  subst hk;simp only[encE,List.getElem?_cons_zero,Option.some.injEq]at h;subst h;exact .gone
theorem vc_ok (v:V):C.Ok pl prr v.c:=by
 unfold V.c;split
 ·exact .int _ _
 ·exact .bool _
 ·exact .gone
theorem els_ok {rg:Rg}(hr:prr rg)(v:V):C.Ok pl prr (.ro rg (v.els rg)):=by
 refine .ro rg _ (fun _=>hr) fun i cs k q h1 h2=> ?_
 unfold V.els at h1;split at h1
 ·rw[List.getElem?_map,Option.map_eq_some_iff]at h1;obtain⟨y,_,rfl⟩:=h1;exact enc_ok hr _ y k q h2
 ·simp at h1
mutual
theorem SC.okR_ok {ρ:Env}:∀(c:SC),c.okR ph pr=true->C.Ok (plOf ph) (prOf pr) (c.enc ρ)
 | .v x,_=>by simp only[SC.enc];exact vc_ok _
 | .s none x,_=>by simp only[SC.enc];exact els_ok (fun r h=>by cases h) _
 | .s (some r) x,h=>by simp only[SC.okR]at h;simp only[SC.enc];exact els_ok (fun r' h' =>by cases h';exact h) _
 | .nil,_=>by simp only[SC.enc];exact .nil
 | .h r,h=>by simp only[SC.okR]at h;simp only[SC.enc];exact .hd _ h
 | .hn r i k x,h=>by
  simp only[SC.okR,Bool.and_eq_true]at h;simp only[SC.enc]
  exact .both _ _ (.hd _ h.1) (els_ok (fun r' h' =>by cases h';exact h.2) _)
 | .hs r lo hi x,h=>by
  simp only[SC.okR,Bool.and_eq_true]at h;simp only[SC.enc]
  exact .both _ _ (.sub _ _ _ _ h.1) (els_ok (fun r' h' =>by cases h';exact h.2) _)
 | .tk r x,h=>by simp only[SC.okR]at h;simp only[SC.enc];exact .both _ _ (.hd _ h) (els_ok (fun r h=>by cases h) _)
 | .rp rg cells,h=>by
  simp only[SC.okR,Bool.and_eq_true]at h;simp only[SC.enc]
  exact .rp _ _ (fun r h' =>by subst h';exact h.1) (okL_ok cells h.2)
 | .fn f caps,h=>by simp only[SC.okR]at h;simp only[SC.enc];exact .fn _ _ (okL_ok caps h)
 | .gone,_=>by simp only[SC.enc];exact .gone
theorem okL_ok {ρ:Env}:∀(cs:List SC),okL ph pr cs=true->∀(k:Nat) (q:C),(encL ρ cs)[k]? =some q->C.Ok (plOf ph) (prOf pr) q
 | [],_,k,q,hq=>by simp[encL]at hq
 | c::cs,h,0,q,hq=>by
  simp only[okL,Bool.and_eq_true]at h;simp only[encL,List.getElem?_cons_zero,Option.some.injEq]at hq;subst hq;exact SC.okR_ok c h.1
 | c::cs,h,k+1,q,hq=>by
  simp only[okL,Bool.and_eq_true]at h;simp only[encL,List.getElem?_cons_succ]at hq;exact okL_ok cs h.2 k q hq
end
theorem SV.okR_ok {ρ:Env}(v:SV)(h:v.okR ph pr=true):PV.Ok (plOf ph) (prOf pr) (v.enc ρ):=by
 cases v with
 | c x=>exact SC.okR_ok x h
 | agg xs=>exact okL_ok xs h
 | ad r e i k=>exact h
 | ra rg cells=>
  simp only[SV.okR,Bool.and_eq_true]at h;exact⟨fun r h' =>by subst h';exact h.1,okL_ok cells h.2⟩
 | tup rs=>
  simp only[SV.okR,List.all_eq_true]at h;intro k r hr;rw[List.getElem?_map,Option.map_eq_some_iff]at hr;obtain⟨y,hy,rfl⟩:=hr;have h1:=okL_ok (ρ:=ρ) y.2 (h y (List.mem_of_getElem? hy));unfold encR;split
  ·exact h1
  ·split
   ·rename_i c cs hc;exact h1 0 c (by rw[hc];rfl)
   ·exact .gone
 | und=>trivial
 | junk=>trivial
theorem subRow_ok:∀(t:Ty) (k0 j:Nat) (x:t.den) (row:Row),subRow k0 t x j=some row->Row.Ok pl (prOf pr) row:=by
 intro t
 induction t with
 | pr a b iha ihb=>
  intro k0 j x row h;simp only[subRow]at h;cases hb:Nat.blt j (k0+a.n)<;>rw[hb]at h
  ·exact ihb _ _ _ _ h
  ·exact iha _ _ _ _ h
 | sl e a=>
  intro k0 j x row h;simp only[subRow]at h;cases hb:Nat.beq j k0<;>rw[hb]at h
  ·cases h
  ·cases h;intro i cs k q h1 h2;rw[List.getElem?_map,Option.map_eq_some_iff]at h1;obtain⟨y,_,rfl⟩:=h1;exact enc_ok (fun r h' =>by cases h') a y k q h2
 | _=>intro k0 j x row h;simp[subRow]at h
theorem rows_nil_list (ρ:Env)(r:Nat)(e:TypeId)(a:Ty)(v:At)(nl:Bool)(inner:Option Rg):RK.rows ρ r (.list e a v nl inner) []=some (.row false nl e (((v.get ρ).as (.sl e a)).mapIdx fun i y=>encIn inner r i a y)):=by
 cases inner<;>rfl
theorem rows_cons_list {ρ:Env}{r:Nat}{e:TypeId}{a:Ty}{v:At}{nl:Bool}{inner:Option Rg}{q:Nat×Nat}{p:List (Nat×Nat)}{row:Row}(h:RK.rows ρ r (.list e a v nl inner) (q::p)=some row):
 inner=none/\p=[]/\∃y,((v.get ρ).as (.sl e a):List a.den)[q.1]? =some y/\subRow 0 a y q.2=some row:=by
 obtain⟨i,k⟩:=q;cases p with
 | cons _ _=>cases inner<;>simp[RK.rows]at h
 | nil=>
  cases inner with
  | some rg=>simp[RK.rows]at h
  | none=>
   have h:(((v.get ρ).as (.sl e a):List a.den)[i]?).bind (fun y=>subRow 0 a y k)=some row:=h;rw[Option.bind_eq_some_iff]at h;obtain⟨y,h1,h2⟩:=h;exact⟨rfl,rfl,y,h1,h2⟩
theorem rows_cons_listH {ρ:Env}{r:Nat}{e:TypeId}{a:Ty}{v:At}{nl:Bool}{i' :At}{k' :Nat}{q:Nat×Nat}{p:List (Nat×Nat)}{row:Row}(h:RK.rows ρ r (.listH e a v nl i' k') (q::p)=some row):
 p=[]/\q≠(i'.nat ρ,k')/\∃y,((v.get ρ).as (.sl e a):List a.den)[q.1]? =some y/\subRow 0 a y q.2=some row:=by
 obtain⟨i,k⟩:=q;cases p with
 | cons _ _=>simp[RK.rows]at h
 | nil=>
  have h:(bif Nat.beq i (i'.nat ρ) && Nat.beq k k' then none else(((v.get ρ).as (.sl e a):List a.den)[i]?).bind (fun y=>subRow 0 a y k))=some row:=h;cases hb:(Nat.beq i (i'.nat ρ) && Nat.beq k k')with
  | true=>rw[hb]at h;cases h
  | false=>
   rw[hb]at h;simp only[cond_false,Option.bind_eq_some_iff]at h;obtain⟨y,h1,h2⟩:=h;refine⟨rfl,?_,y,h1,h2⟩;intro e0;cases e0;simp at hb
theorem RK.okR_ok {ρ:Env}{r:Nat}(k:RK)(h:k.okR ph pr=true)(hl:∀p,p≠[]->pl (r,p))(hp:∀l,plOf ph l->pl l)(p:List (Nat×Nat))(row:Row)(hr:k.rows ρ r p=some row):Row.Ok pl (prOf pr) row:=by
 cases k with
 | box e cells=>
  cases p with
  | cons q p=>simp[RK.rows]at hr
  | nil=>
   simp only[RK.rows,Option.some.injEq]at hr;subst hr;intro i cs k q h1 h2;cases i with
   | zero=>cases h1;exact(okL_ok cells h k q h2).mono hp (fun _ h=>h)
   | succ i=>cases h1
 | list e a v nl inner=>
  cases p with
  | nil=>
   rw[rows_nil_list]at hr;simp only[Option.some.injEq]at hr;subst hr;intro i cs k q h1 h2;rw[List.getElem?_mapIdx,Option.map_eq_some_iff]at h1;obtain⟨y,_,rfl⟩:=h1;cases inner with
   | none=>exact encE_ok (fun k=>hl _ (by simp)) a 0 y k q h2
   | some rg=>exact enc_ok (fun r h' =>by subst h';exact h) a y k q h2
  | cons q p=>
   obtain⟨_,_,y,_,hs⟩:=rows_cons_list hr;exact subRow_ok _ _ _ _ _ hs
 | listH e a v nl i k=>
  cases p with
  | nil=>
   simp only[RK.rows,Option.some.injEq]at hr;subst hr;intro i cs k q h1 h2;rw[List.getElem?_mapIdx,Option.map_eq_some_iff]at h1;obtain⟨y,_,rfl⟩:=h1;exact encE_ok (fun k=>hl _ (by simp)) a 0 y k q h2
  | cons q p=>
   obtain⟨_,_,y,_,hs⟩:=rows_cons_listH hr;exact subRow_ok _ _ _ _ _ hs
 | mp v=>
  cases p with
  | cons q p=>simp[RK.rows]at hr
  | nil=>
   simp only[RK.rows,Option.some.injEq]at hr;subst hr;trivial
 | dead=>cases p<;>simp[RK.rows]at hr
end
theorem all_slot {st:St}{p:SV->Bool}(h:st.slots.all p=true)(hj:p .junk=true)(s:Nat):p (st.slot s)=true:=by
 unfold St.slot;rw[List.getD];cases hs:st.slots[s]? with
 | none=>exact hj
 | some v=>exact List.all_eq_true.1 h v (List.mem_of_getElem? hs)
theorem all_rk {st:St}{p:RK->Bool}(h:st.roots.all p=true)(hj:p .dead=true)(s:Nat):p (st.rk s)=true:=by
 unfold St.rk;rw[List.getD];cases hs:st.roots[s]? with
 | none=>exact hj
 | some v=>exact List.all_eq_true.1 h v (List.mem_of_getElem? hs)
theorem rk_lt {st:St}{r:Nat}(h:st.rk r≠.dead):r<st.nr:=by
 unfold St.rk St.nr at*;rcases Nat.lt_or_ge r st.roots.length with h' | h'
 ·exact h'
 ·rw[List.getD,List.getElem?_eq_none h']at h;exact absurd rfl h
theorem rows_dead (ρ:Env)(r:Nat)(p:List (Nat×Nat)):RK.rows ρ r .dead p=none:=by cases p<;>rfl
section
variable {X:Ctx} {D:Nat->Prop} {Γ:List FE} {st:St} {ρ:Env} {a:Act} {w:World} {g:G}
theorem TInv.newRootX (h:TInv X D st ρ a w g)(hw:st.rok=true){d:Nat}(hd:d<X.N)(k:RK)(o:Obj)(v:Value)
 (hrow:∀(g' :G),(∀b,g.S b->g'.S b)->g'.hdr (st.nr,[])=v->(∀p,p≠[]->g'.hdr (st.nr,p)= .slice none 0 0)->g'.own w.heap.size=some (st.nr,[])->(∀l,l.1<st.nr->g'.hdr l=g.hdr l)->(∀rg,prOf (fun r=>Nat.blt r st.nr) rg->∀b,g.reg rg b->g'.reg rg b/\(w.alloc o).heap[b]? =w.heap[b]?)->
  ∀p row,k.rows ρ st.nr p=some row->RowRep X.P (w.alloc o) g' (st.nr,p) row)
 :
 ∃g',TInv X D ((st.push k).put d (.c (.h st.nr))) ρ (a.put (some d) v) (w.alloc o) g'∧g'.hdr (st.nr,[])=v/\g'.own w.heap.size=some (st.nr,[])/\(∀l,l.1<st.nr->g'.hdr l=g.hdr l)/\(∀b l,g.own b=some l->g'.own b=some l/\(w.alloc o).heap[b]? =w.heap[b]?):=by
 unfold St.rok at hw;simp only[Bool.and_eq_true,List.all_eq_true,Nat.blt_eq]at hw;obtain⟨hw,hfix⟩:=hw
 let g' :G:={ S:=g.S,own:=fun b=>if b=w.heap.size then some (st.nr,[])else g.own b,hdr:=fun l=>if l.1=st.nr then(if l.2=[]then v else .slice none 0 0)else g.hdr l }
 have hL:Lat w (w.alloc o):=(Below.refl _ _).alloc (Nat.le_refl _) o;have hok:=h.inv.ok;have hh:∀l,plOf (fun r=>Nat.blt r st.nr) l->g'.hdr l=g.hdr l:=fun l hl=>by
  simp only[plOf,Nat.blt_eq]at hl;simp only[g'];rw[if_neg (by omega)]
 have hr:∀rg,prOf (fun r=>Nat.blt r st.nr) rg->∀b,g.reg rg b->g'.reg rg b/\(w.alloc o).heap[b]? =w.heap[b]? :=fun rg _ b hb=>by
  have hlt:b<w.heap.size:=by
   cases rg with
   | none=>exact(hok.S b hb).1
   | some r=>
    rcases hb with hb | ⟨p,hb⟩
    ·exact(hok.S b hb).1
    ·exact(hok.own b _ hb).2.1
  refine⟨?_,hL.block b hlt⟩;cases rg with
  | none=>exact hb
  | some r=>
   rcases hb with hb | ⟨p,hb⟩
   ·exact .inl hb
   ·exact .inr ⟨p,by simp only[g'];rw[if_neg (by omega)];exact hb⟩
 have hlt:d<a.tmps.size:=by rw[h.inv.size];exact hd
 refine⟨g',⟨h.typ,h.inv.next (plOf fun r=>Nat.blt r st.nr) (prOf fun r=>Nat.blt r st.nr) hh hr ⟨hok.chg.trans (Chg.of_lat hL hok.base),Nat.le_trans hok.base hL.size,fun b hb=>⟨Nat.lt_of_lt_of_le (hok.S b hb).1 hL.size,(hok.S b hb).2⟩,fun b l hl=> ?_⟩ (by simp[Act.put]) rfl (fun s=> ?_) (fun l row hl=> ?_),fun r hr0=> ?_,?_⟩,by simp[g'],by simp[g'],fun l hl=>by { simp only[g'];rw[if_neg (by omega)] },fun b l hb=>⟨by { have:=(hok.own b _ hb).2.1;simp only[g'];rw[if_neg (by omega)];exact hb },hL.block b (hok.own b _ hb).2.1⟩⟩
 ·simp only[g']at hl;split at hl
  ·rename_i hb;subst hb
   exact⟨.inr hok.base,by simp,fun hS=>by have:=(hok.S _ hS).1;omega⟩
  ·obtain⟨h1,h2,h3⟩:=hok.own b l hl;exact⟨h1,Nat.lt_of_lt_of_le h2 hL.size,h3⟩
 ·rcases St.slot_put (st.push k) d s (.c (.h st.nr))with⟨e,rfl⟩ | ⟨e,hs⟩ | e
  ·right;right
   rw[e];simp only[Act.put];rw[getD_set_eq _ _ _ hlt];exact .hd _ _ (by simp[g'])
  ·right;left
   refine⟨by rw[e];rfl,?_,?_⟩
   ·simp only[Act.put];rw[getD_set_ne' _ _ _ _ (Ne.symm hs)]
   ·unfold St.okR at hw;simp only[Bool.and_eq_true]at hw;exact SV.okR_ok _ (all_slot hw.1 rfl s)
  ·left;rw[e];rfl
 ·have hrk:((st.push k).put d (.c (.h st.nr))).rk l.1=if l.1=st.nr then k else st.rk l.1:=by
   unfold St.put St.push St.rk St.nr;simp only[List.getD];split
   ·rename_i e;rw[e];simp
   ·rename_i e;rcases Nat.lt_or_ge l.1 st.roots.length with h' | h'
    ·rw[List.getElem?_append_left h']
    ·rw[List.getElem?_append_right h',List.getElem?_eq_none (by simp;omega),List.getElem?_eq_none h']
  have hl:RK.rows ρ l.1 (((st.push k).put d (.c (.h st.nr))).rk l.1) l.2=some row:=hl;rw[hrk]at hl;split at hl
  ·rename_i e
   right
   obtain⟨l1,l2⟩:=l;simp only at e;subst e;exact hrow g' (fun _ h=>h) (by simp[g']) (fun p hp=>by simp[g',hp]) (by simp[g']) (fun l hl=>hh l (by simp[plOf];exact hl)) hr l2 row hl
  ·rename_i e
   left
   have hlt:l.1<st.nr:=rk_lt (fun e0=>by rw[e0,rows_dead]at hl;cases hl);unfold St.okR at hw;simp only[Bool.and_eq_true]at hw;refine⟨hl,by simp[plOf];exact hlt,RK.okR_ok (st.rk l.1) (all_rk hw.2 rfl l.1) (fun p _=>by simp[plOf];exact hlt) (fun _ h=>h) l.2 row hl,fun b hb=>⟨?_,hL.block b (hok.own b _ hb).2.1⟩⟩;have:=(hok.own b _ hb).2.1;simp only[g'];rw[if_neg (by omega)];exact hb
 ·rw[hh (r,[]) (by simp[plOf];exact hfix r hr0)];exact h.fixd r hr0
 ·refine⟨fun b hb=> ?_,fun r b q hd hb hq=> ?_⟩
  ·obtain⟨p,q,h1,h2,h3⟩:=h.dirt.1 b hb;refine⟨p,q,h1,?_,h3⟩;have:=(hok.own b _ h2).2.1;simp only[g'];rw[if_neg (by omega)];exact h2
  ·simp only[g']at hb;split at hb
   ·simp only[Option.some.injEq,Prod.mk.injEq]at hb;exact absurd hb.2.symm hq
   ·exact h.dirt.2 r b q hd hb hq
theorem TInv.newRoot (h:TInv X D st ρ a w g)(hw:st.rok=true){d:Nat}(hd:d<X.N)(k:RK)(o:Obj)(v:Value)
 (hrow:∀(g' :G),(∀b,g.S b->g'.S b)->g'.hdr (st.nr,[])=v->(∀p,p≠[]->g'.hdr (st.nr,p)= .slice none 0 0)->g'.own w.heap.size=some (st.nr,[])->(∀l,l.1<st.nr->g'.hdr l=g.hdr l)->(∀rg,prOf (fun r=>Nat.blt r st.nr) rg->∀b,g.reg rg b->g'.reg rg b/\(w.alloc o).heap[b]? =w.heap[b]?)->
  ∀p row,k.rows ρ st.nr p=some row->RowRep X.P (w.alloc o) g' (st.nr,p) row):
 ∃g',TInv X D ((st.push k).put d (.c (.h st.nr))) ρ (a.put (some d) v) (w.alloc o) g' :=by
 obtain⟨g',h1,_⟩:=h.newRootX hw hd k o v hrow;exact⟨g',h1⟩
end
end Go.Pu
/-
  Own work. Operations that make new blocks.
-/
namespace Go.Pu
open Go Go.RowKit
set_option linter.unusedVariables false
section
variable {X:Ctx} {D:Nat->Prop} {Γ:List FE} {st:St} {ρ:Env} {a:Act} {w:World} {g:G}
def WStep (X:Ctx)(D:Nat->Prop)(Γ:List FE)(nr:Bool)(st:St)(o:Oper)(s:Step):Prop:=
 ∀ρ ρ' a w g,TInv X D st ρ a w g->st.wf=true->st.rok=true->evalB Γ (s.es.map (·.1)) ρ=some ρ'→
  o.wp X.P a w (fun a' w' => (nr = true → RelD D w w') ∧ ∃ g', TInv X D s.st ρ' a' w' g') (fun _ _ _ => False)
theorem zeroC_rep (ρ:Env)(v:Value):CRep w g ((zeroC v).enc ρ) v:=by
 unfold zeroC;split
 ·simp only[SC.enc,At.get,V.c];exact .int _ _
 ·simp only[SC.enc,At.get,V.c];exact .bool _
 ·simp only[SC.enc];exact .nil
 ·simp only[SC.enc];exact .gone _
theorem zeroSC_spec {P:Program}{e:TypeId}{cs:List SC}(h:zeroSC P e=some cs):∃i z,P.info? e=some i/\i.zero=some z/\cs=z.cells.toList.map zeroC:=by
 unfold zeroSC at h;cases hi:P.info? e with
 | none=>simp[hi]at h
 | some i=>
  cases hz:i.zero with
  | none=>simp[hi,hz]at h
  | some z=>simp[hi,hz]at h;exact⟨i,z,rfl,hz,h.symm⟩
theorem box_row {P:Program}{l:Loc}{g' :G}{e:TypeId}{cells:List C}{vs:Array Value}(hv:g'.hdr l= .pointer (some ⟨w.heap.size,0,none⟩))(ho:g'.own w.heap.size=some l)(hs:cells.length=szOf P e)(h0:0<szOf P e)(hl:vs.size=cells.length)
 (hc:∀(k:Nat) (q:C),cells[k]? =some q->∃u,vs[k]? =some u/\CRep (w.alloc (.cells vs e)) g' q u):RowRep P (w.alloc (.cells vs e)) g' l (.row true false e [cells]):=by
 refine .full _ _ _ _ w.heap.size 0 1 1 vs (fun _ k=>vs.getD k undef) ⟨hv,ho,heap_alloc_new w _,rfl,Nat.le_refl _,by simp[maxLen],by omega,h0,fun i c h=> ?_,fun i c k x h1 h2=> ?_,fun i c k x h1 h2=> ?_,fun h=>by cases h⟩
 ·cases i with
  | zero=>cases h;exact hs
  | succ i=>cases h
 ·cases i with
  | zero=>
   cases h1;obtain⟨u,hu,_⟩:=hc k x h2;rw[Nat.zero_mul,Nat.zero_add,Nat.zero_add,Array.getD_eq_getD_getElem?,hu];rfl
  | succ i=>cases h1
 ·cases i with
  | zero=>
   cases h1;obtain⟨u,hu,hr⟩:=hc k x h2;rw[Array.getD_eq_getD_getElem?,hu];exact hr
  | succ i=>cases h1
variable {d:Nat} {x y:Operand} {t t' ty:TypeId} {ps:String} {af:Array Edge} {gd:Option (Nat×Bool)} {s:Step} {nr:Bool}
theorem lat_alloc (w:World)(o:Obj):Lat w (w.alloc o):=(Below.refl _ _).alloc (Nat.le_refl _) o
theorem alloc_ok {e:TypeId}(hN:d<X.N)(h:stepAlloc X.P st d e= .ok s):WStep X D Γ nr st ⟨some d,.alloc e,ty,ps,af,gd⟩ s:=by
 unfold stepAlloc at h;split at h
 ·rename_i cs hz;split at h
  ·rename_i hc;simp only[Except.ok.injEq]at h;subst h;intro ρ ρ' a w g hi hw hk he;have:=evalB_nil he;subst this;obtain⟨i,z,hinfo,hzero,rfl⟩:=zeroSC_spec hz;have hrun:(execOp a.eval ⟨some d,.alloc e,ty,ps,af,gd⟩).run X.P w= .ok (.value (.pointer (some ⟨w.heap.size,0,none⟩))) (w.alloc (.cells z.cells e)):=by
    simp[execOp,Instr.alloc,zeroValue,typeInfo,hinfo,hzero,newVar,newRow]
   unfold Oper.wp;rw[hrun];refine⟨fun _=> .of_lat (lat_alloc _ _),hi.newRoot hk hN _ _ _ fun g' h1 h2 h3 h4 h5 h6 p row hr=> ?_⟩;cases p with
   | cons q p=>simp[RK.rows]at hr
   | nil=>
    simp only[RK.rows,Option.some.injEq]at hr;subst hr;refine box_row h2 h4 (by rw[encL_map];simpa using hc.1) hc.2 (by rw[encL_map];simp) fun k q hq=> ?_
    rw[encL_map,List.map_map,List.getElem?_map,Option.map_eq_some_iff]at hq;obtain⟨u,hu,rfl⟩:=hq;exact⟨u,by simpa using hu,zeroC_rep _ u⟩
  ·cases h
 ·cases h
theorem ro_one {rg:Rg}{els:List (List C)}{u:Value}(h:CRep w g (.ro rg els) u):u.oneCell' =true:=by cases h<;>rfl
theorem one_cells {u:Value}(h:u.oneCell' =true):u.cells= #[u]:=by cases u<;>first | rfl | cases h
theorem row_one {P:Program}{l:Loc}{row:Row}(h:RowRep P w g l row):(g.hdr l).oneCell' =true:=by
 cases h with
 | nil _ _ hd=>rw[hd];rfl
 | zero _ A hd=>rw[hd];rfl
 | full bx _ _ _ b base n cap cs f hf=>rw[hf.hd];cases bx<;>rfl
 | mp kvs b clk es hd=>rw[hd];rfl
theorem solid_one (hi:TInv X D st ρ a w g){c:SC}{u:Value}(hs:st.solid c=true)(h:CRep w g (c.enc ρ) u):u.oneCell' =true:=by
 cases c with
 | v x=>
  simp only[St.solid]at hs;simp only[SC.enc]at h;split at hs
  ·rename_i k hk;have:=V.int_of (At.ty_get hi.typ hk);rw[this]at h;have:=crep_int (k:=k) h;rw[this];rfl
  ·rename_i hk;have:=V.bool_of (At.ty_get hi.typ hk);rw[this]at h;have:=crep_bool h;rw[this];rfl
  ·cases hs
 | s rg x=>simp only[SC.enc]at h;exact ro_one h
 | nil=>simp only[SC.enc]at h;cases h;rfl
 | h r=>
  simp only[SC.enc]at h;rw[hd_eq h];simp only[St.solid]at hs;cases hr:st.rk r with
  | dead=>rw[hr]at hs;cases hs
  | box e cells=>exact row_one (hi.inv.row (r,[]) (.row true false e [encL ρ cells]) (by simp only[hr,RK.rows]))
  | list e b v nl inner=>exact row_one (row_of hi hr)
  | listH e b v nl i k=>exact row_one (hi.inv.row (r,[]) (.row false nl e (((v.get ρ).as (.sl e b)).mapIdx fun i y=>encE r i 0 b y)) (by simp only[hr,RK.rows]))
  | mp v=>exact row_one (hi.inv.row (r,[]) (.mp ((v.get ρ).as .mp)) (by simp only[hr,RK.rows]))
 | hn r i k x=>simp only[SC.enc]at h;exact ro_one (both_r h)
 | hs r lo hi' x=>simp only[SC.enc]at h;exact ro_one (both_r h)
 | tk r x=>simp only[SC.enc]at h;exact ro_one (both_r h)
 | rp rg cells=>simp only[SC.enc]at h;cases h;rfl
 | fn f caps=>simp only[SC.enc]at h;cases h;rfl
 | gone=>simp[St.solid]at hs
theorem cells_ok {v:SV}{cs:List SC}(h:st.cells v= .ok cs):svCells v= .ok cs/\cs.all st.solid=true:=by
 unfold St.cells at h;obtain⟨cs',hc,h⟩:=ok_bind h;split at h
 ·rename_i hs;simp only[Except.ok.injEq]at h;subst h;exact⟨hc,hs⟩
 ·cases h
theorem cells_rep (hi:TInv X D st ρ a w g){o:Operand}{v:SV}{cs:List SC}(hv:st.val o= .ok v)(hc:st.cells v= .ok cs):
 (a.eval o).cells.size=cs.length/\∀(k:Nat) (q:C),(encL ρ cs)[k]? =some q->∃u,(a.eval o).cells[k]? =some u/\CRep w g q u/\u.oneCell' =true:=by
 obtain⟨h1,h2⟩:=cells_ok hc;have hp:=val_rep hi hv;have one:∀(k:Nat) (q:C) (u:Value),(encL ρ cs)[k]? =some q->CRep w g q u->u.oneCell' =true:=fun k q u hq hu=>by
  rw[encL_map,List.getElem?_map,Option.map_eq_some_iff]at hq;obtain⟨c,hc,rfl⟩:=hq;exact solid_one hi (List.all_eq_true.1 h2 c (List.mem_of_getElem? hc)) hu
 unfold svCells at h1;split at h1
 ·rename_i c;simp only[Except.ok.injEq]at h1;subst h1;have hp:CRep w g (c.enc ρ) (a.eval o):=hp;have ho:=one 0 (c.enc ρ) _ (by simp[encL]) hp;rw[one_cells ho];refine⟨rfl,fun k q hq=> ?_⟩;cases k with
  | zero=>
   simp only[encL,List.getElem?_cons_zero,Option.some.injEq]at hq;subst hq;exact⟨_,rfl,hp,ho⟩
  | succ k=>simp[encL]at hq
 ·rename_i xs;simp only[Except.ok.injEq]at h1;subst h1;obtain⟨vs,e1,e2,e3⟩:=hp;rw[e1];refine⟨by show vs.size=_;rw[e2,encL_map,List.length_map],fun k q hq=> ?_⟩;obtain⟨u,hu,hr⟩:=e3 k q hq;exact⟨u,hu,hr,one k q u hq hr⟩
 ·cases h1
theorem rok_val {o:Operand}{v:SV}(hk:st.rok=true)(hv:st.val o= .ok v):v.okR (fun r=>Nat.blt r st.nr) (fun r=>Nat.blt r st.nr)=true:=by
 unfold St.rok St.okR at hk;simp only[Bool.and_eq_true]at hk;cases o with
 | tmp t=>
  simp only[St.val,Except.ok.injEq]at hv;subst hv;exact all_slot hk.1.1 rfl t
 | const c=>
  simp only[St.val]at hv;unfold constV at hv;split at hv<;>simp only[Except.ok.injEq,reduceCtorEq]at hv<;>subst hv<;>rfl
 | func f=>simp only[St.val,Except.ok.injEq]at hv;subst hv;rfl
 | global n=>simp[St.val]at hv
theorem rok_cells {ph pr:Nat->Bool}{v:SV}{cs:List SC}(h:v.okR ph pr=true)(hc:svCells v= .ok cs):okL ph pr cs=true:=by
 unfold svCells at hc;split at hc
 ·simp only[Except.ok.injEq]at hc;subst hc;simp only[okL,Bool.and_true];exact h
 ·simp only[Except.ok.injEq]at hc;subst hc;exact h
 ·cases hc
theorem box_ok {e:TypeId}(hN:d<X.N)(h:stepBox X.P st d e x= .ok s):WStep X D Γ nr st ⟨some d,.box e x,ty,ps,af,gd⟩ s:=by
 unfold stepBox at h;obtain⟨v,hv,h⟩:=ok_bind h;obtain⟨cs,hcs,h⟩:=ok_bind h;split at h
 ·cases h
 ·rename_i hc;have hc:=Decidable.of_not_not hc;simp only[Except.ok.injEq]at h;subst h;intro ρ ρ' a w g hi hw hk he;have:=evalB_nil he;subst this;obtain⟨h1,h2⟩:=cells_rep hi hv hcs;have hrun:(execOp a.eval ⟨some d,.box e x,ty,ps,af,gd⟩).run X.P w= .ok (.value (.pointer (some ⟨w.heap.size,0,none⟩))) (w.alloc (.cells (a.eval x).cells e)):=by
   simp only[execOp,Instr.box,newVar,newRow,Sem.run_bind,run_newObj_alloc,Sem.run_pure,Result.andThen_ok]
  unfold Oper.wp;rw[hrun];refine⟨fun _=> .of_lat (lat_alloc _ _),hi.newRoot hk hN _ _ _ fun g' q1 q2 q3 q4 q5 q6 p row hr=> ?_⟩;cases p with
  | cons q p=>simp[RK.rows]at hr
  | nil=>
   simp only[RK.rows,Option.some.injEq]at hr;subst hr;refine box_row q2 q4 (by rw[encL_map,List.length_map];exact hc.1) hc.2 (by rw[encL_map,List.length_map];exact h1) fun k q hq=> ?_
   obtain⟨u,hu,hr,_⟩:=h2 k q hq;refine⟨u,hu,hr.keep (pl:=plOf fun r=>Nat.blt r st.nr) (fun l hl=>q5 l (by simpa[plOf]using hl)) q6 ?_⟩;exact okL_ok cs (rok_cells (rok_val hk hv) (cells_ok hcs).1) k q hq
theorem makeMap_ok {mt:TypeId}(hN:d<X.N):WStep X D Γ nr st ⟨some d,.makeMap mt none,ty,ps,af,gd⟩ ⟨[],(st.push (.mp (.nil .mp))).put d (.c (.h st.nr))⟩:=by
 intro ρ ρ' a w g hi hw hk he;have:=evalB_nil he;subst this;have hrun:(execOp a.eval ⟨some d,.makeMap mt none,ty,ps,af,gd⟩).run X.P w= .ok (.value (.map (some w.heap.size))) (w.alloc (.map #[] 0)):=by
  simp[execOp,Instr.makeMap]
 unfold Oper.wp;rw[hrun];refine⟨fun _=> .of_lat (lat_alloc _ _),hi.newRoot hk hN _ _ _ fun g' q1 q2 q3 q4 q5 q6 p row hr=> ?_⟩;cases p with
 | cons q p=>simp[RK.rows]at hr
 | nil=>
  simp only[RK.rows,Option.some.injEq]at hr;subst hr;exact .mp _ w.heap.size 0 #[] q2 q4 (heap_alloc_new w _) rfl
theorem madeCells_get (z:Array Value)(n m:Nat)(hm:m<n)(hz:0<z.size):(madeCells z n)[m]? =z[m % z.size]? :=by
 have h1:m % z.size<z.size:=Nat.mod_lt _ hz;simp[madeCells,hm,h1]
theorem beqL_get:∀(cs ds:List SC),beqL cs ds=true->cs.length=ds.length/\∀(k:Nat) (c d:SC),cs[k]? =some c->ds[k]? =some d->c.beq d=true
 | [],[],_=>⟨rfl,fun k c d h=>by simp at h⟩
 | c::cs,e::ds,h=>by
  simp only[beqL,Bool.and_eq_true]at h;obtain⟨h1,h2⟩:=beqL_get cs ds h.2;refine⟨by simp[h1],fun k c' d' q1 q2=> ?_⟩;cases k with
  | zero=>simp at q1 q2;subst q1 q2;exact h.1
  | succ k=>exact h2 k c' d' (by simpa using q1) (by simpa using q2)
 | [],_::_,h=>by simp[beqL]at h
 | _::_,[],h=>by simp[beqL]at h
theorem zeroC_beq {u:Value}{c:SC}(h:(zeroC u).beq c=true):(∀k,c= .v (.int k 0)->u= .int k 0)/\(c= .v (.bool false)->u= .bool false)/\(c= .nil->u= .slice none 0 0):=by
 unfold zeroC at h;split at h
 ·refine⟨fun k hk=> ?_,fun hk=> ?_,fun hk=> ?_⟩<;>subst hk<;>simp[SC.beq]at h
  obtain⟨rfl,rfl⟩:=h;rfl
 ·refine⟨fun k hk=> ?_,fun hk=> ?_,fun hk=> ?_⟩<;>subst hk<;>simp[SC.beq]at h
  subst h;rfl
 ·refine⟨fun k hk=> ?_,fun hk=> ?_,fun hk=> ?_⟩<;>subst hk<;>simp[SC.beq]at h
  rfl
 ·refine⟨fun k hk=> ?_,fun hk=> ?_,fun hk=> ?_⟩<;>subst hk<;>simp[SC.beq]at h
theorem zeroCells_length:∀(t:Ty),(zeroCells t).length=t.n
 | .int _=>rfl
 | .bool=>rfl
 | .unit=>rfl
 | .pr a b=>by simp only[zeroCells,List.length_append,zeroCells_length a,zeroCells_length b,Ty.n]
 | .sl _ _=>rfl
 | .mp=>rfl
theorem zero_enc {r i:Nat}(hn:∀k,g.hdr (r,[(i,k)])= .slice none 0 0):∀(t:Ty) (k0:Nat) (k:Nat) (c:SC),(zeroCells t)[k]? =some c->∃q,(encE r i k0 t t.dflt)[k]? =some q/\∀u,(zeroC u).beq c=true->CRep w g q u
 | .int kd,k0,k,c,h=>by
  have hk:k=0:=by have:=(List.getElem?_eq_some_iff.1 h).1;simp[zeroCells]at this;exact this
  subst hk;simp only[zeroCells,List.getElem?_cons_zero,Option.some.injEq]at h;refine⟨.int kd 0,rfl,fun u hu=> ?_⟩;rw[(zeroC_beq hu).1 kd h.symm];exact .int _ _
 | .bool,k0,k,c,h=>by
  have hk:k=0:=by have:=(List.getElem?_eq_some_iff.1 h).1;simp[zeroCells]at this;exact this
  subst hk;simp only[zeroCells,List.getElem?_cons_zero,Option.some.injEq]at h;refine⟨.bool false,rfl,fun u hu=> ?_⟩;rw[(zeroC_beq hu).2.1 h.symm];exact .bool _
 | .unit,k0,k,c,h=>by simp[zeroCells]at h
 | .pr a b,k0,k,c,h=>by
  simp only[zeroCells,List.getElem?_append,zeroCells_length]at h;simp only[encE,Ty.dflt,List.getElem?_append,encE_length];split at h
  ·rename_i hk;simp only[hk,if_true];exact zero_enc hn a k0 k c h
  ·rename_i hk;simp only[hk,if_false];exact zero_enc hn b _ _ c h
 | .sl e a,k0,k,c,h=>by
  have hk:k=0:=by have:=(List.getElem?_eq_some_iff.1 h).1;simp[zeroCells]at this;exact this
  subst hk;simp only[zeroCells,List.getElem?_cons_zero,Option.some.injEq]at h;refine⟨.hd (r,[(i,k0)]),rfl,fun u hu=> ?_⟩;rw[(zeroC_beq hu).2.2 h.symm];exact .hd _ _ (hn k0).symm
 | .mp,k0,k,c,h=>by
  have hk:k=0:=by have:=(List.getElem?_eq_some_iff.1 h).1;simp[zeroCells]at this;exact this
  subst hk;exact⟨.gone,rfl,fun u _=> .gone u⟩
theorem list_row {P:Program}{l:Loc}{g' :G}{nl:Bool}{e:TypeId}{els:List (List C)}{cap:Nat}{vs:Array Value}{f:Nat->Nat->Value}(hv:g'.hdr l= .slice (some ⟨w.heap.size,0,none⟩) els.length cap)(ho:g'.own w.heap.size=some l)(hcap:els.length<=cap)(hm:cap<=maxLen)(h0:0<szOf P e)(hl:cap*szOf P e=vs.size)
 (hsz:∀(i:Nat) (c:List C),els[i]? =some c->c.length=szOf P e) (hnl:nl=true->els≠[])
 (hc:∀(i:Nat) (c:List C) (k:Nat) (q:C),els[i]? =some c->c[k]? =some q->vs[i*szOf P e+k]? =some (f i k)/\CRep (w.alloc (.cells vs e)) g' q (f i k)):RowRep P (w.alloc (.cells vs e)) g' l (.row false nl e els):=
 .full _ _ _ _ w.heap.size 0 els.length cap vs f ⟨hv,ho,heap_alloc_new w _,rfl,hcap,hm,by omega,h0,hsz,fun i c k x h1 h2=>by rw[Nat.zero_add];exact(hc i c k x h1 h2).1,fun i c k x h1 h2=>(hc i c k x h1 h2).2,hnl⟩
theorem dflt_subRow:∀(t:Ty) (k0 j:Nat) (row:Row),subRow k0 t t.dflt j=some row->∃e,row= .row false false e []
 | .pr a b,k0,j,row,h=>by
  simp only[subRow,Ty.dflt]at h;cases hb:Nat.blt j (k0+a.n)<;>rw[hb]at h
  ·exact dflt_subRow b _ _ _ h
  ·exact dflt_subRow a _ _ _ h
 | .sl e a,k0,j,row,h=>by
  simp only[subRow,Ty.dflt]at h;cases hb:Nat.beq j k0<;>rw[hb]at h
  ·cases h
  ·cases h;exact⟨e,rfl⟩
 | .int _,_,_,_,h=>by simp[subRow]at h
 | .bool,_,_,_,h=>by simp[subRow]at h
 | .unit,_,_,_,h=>by simp[subRow]at h
 | .mp,_,_,_,h=>by simp[subRow]at h
theorem TInv.bindOne (hi:TInv X D st ρ a w g)(hw:st.wf=true){v:V}{t:Ty}(ht:v.t=t):TInv X D (st.bind t) (ρ++[v]) a w g:=by
 have hg:=hi.grow hw [v];simp only[List.map_cons,List.map_nil,ht]at hg;exact hg
theorem rok_bind (hk:st.rok=true)(t:Ty):(st.bind t).rok=true:=hk
theorem make_ok (hN:d<X.N)(h:stepMake X.P st d t x y= .ok s):WStep X D Γ nr st ⟨some d,.makeSlice t x y,ty,ps,af,gd⟩ s:=by
 unfold stepMake at h;obtain⟨⟨k,m⟩,hx,h⟩:=ok_bind h;obtain⟨⟨k',n⟩,hy,h⟩:=ok_bind h;obtain⟨x1,x2⟩:=intOf_ok hx;obtain⟨y1,y2⟩:=intOf_ok hy;simp only at h;split at h
 ·cases h
 ·rename_i e he;split at h
  ·cases h
  ·rename_i b hb;by_cases hc:(k= .i64/\k' = .i64/\m=n/\b.flat1=true/\b.n=szOf X.P e/\0<b.n/\zeroIs X.P e b=true)
   ·rw[if_neg (fun hh=>hh hc)]at h;simp only[Except.ok.injEq]at h;subst h;obtain⟨rfl,rfl,rfl,hf,hn,h0,hz⟩:=hc;intro ρ ρ' a w g hi hw hk hev;obtain⟨v',hv',rfl⟩:=evalB_one hev;simp only[Ex.den1,Ex.den,gmake,Option.bind_eq_some_iff,Option.some.injEq]at hv';obtain⟨zs,hzs,rfl⟩:=hv';split at hzs
    case isFalse=>cases hzs
    rename_i hfit;simp only[Option.some.injEq]at hzs;obtain⟨hn0,hfit⟩:=hfit;simp only[gfit,decide_eq_true_eq]at hfit;have ex:=val_int hi x1 x2;have ey:=val_int hi y1 y2;unfold zeroIs at hz;split at hz
    case h_2=>cases hz
    rename_i cs hcs;obtain⟨i,z,hinfo,hzero,rfl⟩:=zeroSC_spec hcs;obtain⟨hzl,hzb⟩:=beqL_get _ _ hz;have hisz:i.size=szOf X.P e:=by simp[szOf,hinfo]
    have hzsz:z.cells.size=szOf X.P e:=by
     have:=hzl;rw[zeroCells_length,hn]at this;simpa using this
    have hib:i.bytes=bytesOf X.P e:=by simp[bytesOf,hinfo]
    generalize hN' :(m.get ρ).int.toNat=N at*;have hNi:(m.get ρ).int=(N:Int):=by omega
    rw[hNi]at ex ey;have hb' :(i.bytes:Int)*(N:Int)<=281474976710656:=by
     have:((i.bytes*N:Nat):Int)<=281474976710656:=by rw[hib,Nat.mul_comm];omega
     rwa [Int.natCast_mul]at this
    have hrun0:=run_make (P:=X.P) w t e i z (elem_under he) hinfo hzero .i64 .i64 N N (by omega) (Int.le_refl _) hb' (by omega);simp only[Int.toNat_natCast]at hrun0;have hrun:(execOp a.eval ⟨some d,.makeSlice t x y,ty,ps,af,gd⟩).run X.P w= .ok (.value (.slice (some ⟨w.heap.size,0,none⟩) N N)) (w.alloc (.cells (madeCells z.cells (N*i.size)) e)):=by
     simp only[execOp,ex,ey,Sem.run_bind,hrun0,Result.andThen_ok,Sem.run_pure]
    unfold Oper.wp;rw[hrun];have hi2:=hi.bindOne hw (v:=⟨.sl e b,zs⟩) rfl;refine⟨fun _=> .of_lat (lat_alloc _ _),hi2.newRoot (rok_bind hk _) hN _ _ _ fun g' q1 q2 q3 q4 q5 q6 p row hr=> ?_⟩;have hval:(st.ref.get (ρ++[⟨.sl e b,zs⟩])).as (.sl e b)=zs:=by rw[ref_get hi.len];exact V.as_self _ _
    cases p with
    | nil=>
     rw[rows_nil_list,hval]at hr;simp only[Option.some.injEq]at hr;subst hr;have hzl2:(zs.mapIdx fun i y=>encIn none (st.bind (.sl e b)).nr i b y).length=N:=by rw[<-hzs];simp
     have hget:∀(j:Nat) (c:List C),(zs.mapIdx fun i y=>encIn none (st.bind (.sl e b)).nr i b y)[j]? =some c->j<N/\c=encE (st.bind (.sl e b)).nr j 0 b b.dflt:=fun j c hc=>by
      rw[List.getElem?_mapIdx,<-hzs,List.getElem?_replicate]at hc;split at hc
      ·rename_i hj;simp only[Option.map_some,Option.some.injEq]at hc;exact⟨hj,hc.symm⟩
      ·cases hc
     refine list_row (cap:=N) (f:=fun _ k=>z.cells.getD k undef) (by rw[hzl2];exact q2) q4 (by omega) (by simp only[maxLen];omega) (by omega) (by rw[size_madeCells,hisz]) (fun j c hc=>by obtain⟨_,rfl⟩:=hget j c hc;rw[encE_length,hn]) (fun h=>by cases h) fun j c k q hc hq=> ?_
     obtain⟨hj,rfl⟩:=hget j c hc;have hkn:k<szOf X.P e:=by rw[<-hn,<-encE_length (st.bind (.sl e b)).nr j 0 b b.dflt];exact(List.getElem?_eq_some_iff.1 hq).1
     have hzk:z.cells[k]? =some (z.cells[k]'(by omega)):=Array.getElem?_eq_getElem (by omega);have hlt:j*szOf X.P e+k<N*i.size:=by
      rw[hisz];have:(j+1)*szOf X.P e<=N*szOf X.P e:=Nat.mul_le_mul_right _ hj;rw[Nat.add_mul,Nat.one_mul]at this;omega
     refine⟨?_,?_⟩
     ·rw[madeCells_get _ _ _ hlt (by omega),hzsz,Nat.mul_comm,Nat.mul_add_mod,Nat.mod_eq_of_lt hkn,hzk,Array.getD_eq_getD_getElem?,hzk];rfl
     ·have hzc:(zeroCells b)[k]? =some ((zeroCells b)[k]'(by rw[zeroCells_length];omega)):=List.getElem?_eq_getElem _;obtain⟨q',h1,h2⟩:=zero_enc (w:=w.alloc (.cells (madeCells z.cells (N*i.size)) e)) (g:=g') (r:=(st.bind (.sl e b)).nr) (i:=j) (fun k=>q3 _ (by simp)) b 0 k _ hzc;rw[hq]at h1;cases h1;rw[Array.getD_eq_getD_getElem?,hzk];exact h2 _ (hzb k _ _ (by simp[hzk]) hzc)
    | cons q p=>
     obtain⟨_,rfl,y,hy,hs⟩:=rows_cons_list hr;rw[hval,<-hzs,List.getElem?_replicate]at hy;split at hy
     ·cases hy;obtain⟨e',rfl⟩:=dflt_subRow _ _ _ _ hs;exact .nil _ _ (q3 _ (by simp))
     ·cases hy
   ·rw[if_pos hc]at h;cases h
end
end Go.Pu
/-
  Own work. Struct values; slice literals.
-/
namespace Go.Pu
open Go Go.RowKit
set_option linter.unusedVariables false
theorem fill_one (cs:Array Value)(off:Nat):∀(vs:List Value) (j:Nat) (m:Nat),off+j+vs.length<=cs.size->
 ((vs.zipIdx j).foldl (fun cs (c,j)=>cs.setIfInBounds (off+j) c) cs).size=cs.size/\
 ((vs.zipIdx j).foldl (fun cs (c,j)=>cs.setIfInBounds (off+j) c) cs)[m]? =if off+j<=m/\m<off+j+vs.length then vs[m - (off+j)]? else cs[m]? :=by
 intro vs
 induction vs generalizing cs with
 | nil=>intro j m _;simp;intro h1 h2;omega
 | cons v vs ih=>
  intro j m h;simp only[List.zipIdx_cons,List.foldl_cons,List.length_cons]at h ⊢;obtain⟨h1,h2⟩:=ih (cs.setIfInBounds (off+j) v) (j+1) m (by simp;omega);refine⟨by rw[h1];simp,?_⟩;rw[h2];by_cases hm:m=off+j
  ·subst hm;rw[if_neg (by omega),if_pos (by omega)];simp only[Nat.sub_self,List.getElem?_cons_zero];rw[Array.getElem?_setIfInBounds_self_of_lt (by omega)]
  ·rw[Array.getElem?_setIfInBounds_ne (by omega)];by_cases hin:off+(j+1)<=m/\m<off+(j+1)+vs.length
   ·rw[if_pos hin,if_pos (by omega)];have:m - (off+j)=(m - (off+(j+1)))+1:=by omega
    rw[this,List.getElem?_cons_succ]
   ·rw[if_neg hin,if_neg (by omega)]
theorem splice_get {α:Type}(c:List α)(k:Nat)(xs:List α)(hk:k+xs.length<=c.length)(j:Nat):(splice c k xs)[j]? =if k<=j/\j<k+xs.length then xs[j - k]? else c[j]? :=by
 unfold splice;rw[List.append_assoc,List.getElem?_append,List.length_take,Nat.min_eq_left (by omega)];split
 ·rename_i h;rw[if_neg (by omega),List.getElem?_take,if_pos h]
 ·rename_i h;rw[List.getElem?_append];split
  ·rename_i h2;rw[if_pos (by omega)]
  ·rename_i h2;rw[if_neg (by omega),List.getElem?_drop];congr 1;omega
theorem splice_length {α:Type}(c:List α)(k:Nat)(xs:List α)(hk:k+xs.length<=c.length):(splice c k xs).length=c.length:=by
 unfold splice;simp;omega
theorem splice_map {α β:Type}(f:α->β)(c:List α)(k:Nat)(xs:List α):(splice c k xs).map f=splice (c.map f) k (xs.map f):=by
 unfold splice;simp
section
variable {X:Ctx} {D:Nat->Prop} {Γ:List FE} {st:St} {ρ:Env} {a:Act} {w:World} {g:G}
def CellsRep (w:World)(g:G)(ρ:Env)(cs:List SC)(vs:Array Value):Prop:=vs.size=cs.length/\∀(k:Nat) (q:C),(encL ρ cs)[k]? =some q->∃u,vs[k]? =some u/\CRep w g q u
theorem cellsRep_splice {cs xs:List SC}{vs us:Array Value}(h:CellsRep w g ρ cs vs)(hx:CellsRep w g ρ xs us){off:Nat}(ho:off+xs.length<=cs.length):
 CellsRep w g ρ (splice cs off xs) (us.zipIdx.foldl (fun cs (c,j)=>cs.setIfInBounds (off+j) c) vs):=by
 have e:us.zipIdx.foldl (fun cs (c,j)=>cs.setIfInBounds (off+j) c) vs=(us.toList.zipIdx 0).foldl (fun cs (c,j)=>cs.setIfInBounds (off+j) c) vs:=by
  rw[<-Array.foldl_toList,Array.toList_zipIdx]
 have hf:=fun m=>fill_one vs off us.toList 0 m (by simp;have:=h.1;have:=hx.1;omega)
 rw[<-e]at hf;refine⟨by rw[(hf 0).1,splice_length _ _ _ ho];exact h.1,fun k q hq=> ?_⟩;rw[encL_map,splice_map,splice_get _ _ _ (by simpa using ho),List.length_map]at hq;rw[(hf k).2];have hl:us.toList.length=xs.length:=by simpa using hx.1
 rw[hl];simp only[Nat.add_zero];split at hq
 ·rename_i hin;rw[if_pos hin];obtain⟨u,hu,hr⟩:=hx.2 (k - off) q (by rw[encL_map];exact hq);exact⟨u,by simpa using hu,hr⟩
 ·rename_i hin;rw[if_neg hin];exact h.2 k q (by rw[encL_map];exact hq)
theorem buildParts_ok (hi:TInv X D st ρ a w g)(places:List (Nat×Nat)):∀(ps:List (Nat×Operand)) (cs cs' :List SC) (vs:Array Value),buildParts st places ps cs= .ok cs'→CellsRep w g ρ cs vs->
 ∃vs',Instr.fill (places.toArray[·]?) vs (ps.map fun p=>(p.1,a.eval p.2))=some vs'∧CellsRep w g ρ cs' vs'
 | [],cs,cs',vs,h,hr=>by
  simp only[buildParts,Except.ok.injEq]at h;subst h;exact⟨vs,rfl,hr⟩
 | (i,o)::ps,cs,cs',vs,h,hr=>by
  simp only[buildParts]at h;obtain⟨v,hv,h⟩:=ok_bind h;obtain⟨xs,hxs,h⟩:=ok_bind h;split at h
  ·rename_i off sz hp;split at h
   ·rename_i hc;obtain⟨h1,h2⟩:=cells_rep hi hv hxs;have hx:CellsRep w g ρ xs (a.eval o).cells:=⟨h1,fun k q hq=>by obtain⟨u,q1,q2,_⟩:=h2 k q hq;exact⟨u,q1,q2⟩⟩;obtain⟨vs',q1,q2⟩:=buildParts_ok hi places ps _ cs' _ h (cellsRep_splice hr hx (off:=off) (by omega));refine⟨vs',?_,q2⟩;have hpl:places.toArray[i]? =some (off,sz):=by simpa using hp
    simp only[List.map_cons,Instr.fill,hpl];rw[if_neg (by simp[h1,hc.1];have:=hr.1;omega)];exact q1
   ·cases h
  ·cases h
variable {d:Nat} {x y:Operand} {t t' ty:TypeId} {ps:String} {af:Array Edge} {gd:Option (Nat×Bool)} {s:Step} {nr:Bool}
theorem build_ok {parts:Array (Nat×Operand)}(hN:d<X.N)(h:stepBuild X.P st d t parts.toList= .ok s):WStep X D Γ nr st ⟨some d,.build t parts,ty,ps,af,gd⟩ s:=by
 unfold stepBuild at h;split at h
 ·rename_i zs places hz hp;obtain⟨cs,hcs,h⟩:=ok_bind h;simp only[Except.ok.injEq]at h;subst h;intro ρ ρ' a w g hi hw hk he;have:=evalB_nil he;subst this;obtain⟨i,z,hinfo,hzero,rfl⟩:=zeroSC_spec hz;have hr0:CellsRep w g ρ' (z.cells.toList.map zeroC) z.cells:=⟨by simp,fun k q hq=>by
   rw[encL_map,List.map_map,List.getElem?_map,Option.map_eq_some_iff]at hq;obtain⟨u,hu,rfl⟩:=hq;exact⟨u,by simpa using hu,zeroC_rep _ u⟩⟩
  obtain⟨vs,h1,h2⟩:=buildParts_ok hi places _ _ _ _ hcs hr0;unfold placesOf at hp;split at hp
  ·rename_i fields hu;have hb:X.P.built t (parts.map fun(i,x)=>(i,a.eval x)).toList=some vs:=by
    have e:(parts.map fun(i,x)=>(i,a.eval x)).toList=parts.toList.map fun p=>(p.1,a.eval p.2):=by simp
    unfold Program.built;simp only[hinfo,hu,hzero,hp,e];exact h1
   refine wp_build t parts rfl (by rw[hb];rfl) ?_
   rw[hb];exact⟨fun _=> .refl _ _,g,hi.put hN ⟨vs,rfl,by rw[h2.1,encL_map,List.length_map],h2.2⟩⟩
  ·cases hp
 ·cases h
theorem leaves_length:∀(t:Ty),t.leaves.length=t.n
 | .int _=>rfl
 | .bool=>rfl
 | .unit=>rfl
 | .pr a b=>by simp only[Ty.leaves,List.length_append,leaves_length a,leaves_length b,Ty.n]
 | .sl _ _=>rfl
 | .mp=>rfl
theorem mkv_app:∀(t:Ty) (vs rest:List V),vs.length=t.n->mkv t (vs++rest)=((mkv t vs).1,rest)
 | .int _,[v],rest,_=>by simp[mkv]
 | .bool,[v],rest,_=>by simp[mkv]
 | .unit,[],rest,_=>by simp[mkv]
 | .sl _ _,[v],rest,_=>by simp[mkv]
 | .mp,[v],rest,_=>by simp[mkv]
 | .pr a b,vs,rest,h=>by
  simp only[Ty.n]at h;have e:vs=vs.take a.n++vs.drop a.n:=(List.take_append_drop a.n vs).symm;have l1:(vs.take a.n).length=a.n:=by simp;omega
  have l2:(vs.drop a.n).length=b.n:=by simp;omega
  have q1:=mkv_app a (vs.take a.n) (vs.drop a.n++rest) l1;have q2:=mkv_app b (vs.drop a.n) rest l2;have q3:=mkv_app a (vs.take a.n) (vs.drop a.n) l1;rw[<-List.append_assoc,<-e]at q1;rw[<-e]at q3;simp only[mkv,q1,q2,q3]
 | .int _,[],_,h=>by simp[Ty.n]at h
 | .int _,_::_::_,_,h=>by simp[Ty.n]at h
 | .bool,[],_,h=>by simp[Ty.n]at h
 | .bool,_::_::_,_,h=>by simp[Ty.n]at h
 | .unit,_::_,_,h=>by simp[Ty.n]at h
 | .sl _ _,[],_,h=>by simp[Ty.n]at h
 | .sl _ _,_::_::_,_,h=>by simp[Ty.n]at h
 | .mp,[],_,h=>by simp[Ty.n]at h
 | .mp,_::_::_,_,h=>by simp[Ty.n]at h
theorem mkv_pr (a b:Ty)(vs:List V)(h:vs.length=(Ty.pr a b).n):(mkv (.pr a b) vs).1=((mkv a (vs.take a.n)).1,(mkv b (vs.drop a.n)).1):=by
 simp only[Ty.n]at h;have l1:(vs.take a.n).length=a.n:=by simp;omega
 have q3:=mkv_app a (vs.take a.n) (vs.drop a.n) l1;rw[List.take_append_drop]at q3;simp only[mkv,q3]
theorem mk_enc (rg:Rg):∀(t:Ty) (vs:List V) (qs:List C),vs.length=t.n->qs.length=t.n->
 (∀(k:Nat) (u:Ty) (v:V) (q:C),t.leaves[k]? =some u->vs[k]? =some v->qs[k]? =some q->enc rg u (mkv u [v]).1=[q])->enc rg t (mkv t vs).1=qs
 | .int kd,[v],[q],_,_,h=>h 0 (.int kd) v q rfl rfl rfl
 | .bool,[v],[q],_,_,h=>h 0 .bool v q rfl rfl rfl
 | .unit,[],[],_,_,h=>rfl
 | .sl e a,[v],[q],_,_,h=>h 0 (.sl e a) v q rfl rfl rfl
 | .mp,[v],[q],_,_,h=>h 0 .mp v q rfl rfl rfl
 | .pr a b,vs,qs,hv,hq,h=>by
  rw[mkv_pr a b vs hv];simp only[Ty.n]at hv hq;have la:=leaves_length a;simp only[enc];rw[mk_enc rg a (vs.take a.n) (qs.take a.n) (by simp;omega) (by simp;omega) (fun k u v q q1 q2 q3=>by
   have hk:k<a.n:=by rw[<-la];exact(List.getElem?_eq_some_iff.1 q1).1
   rw[List.getElem?_take,if_pos hk]at q2 q3;exact h k u v q (by simp only[Ty.leaves];rw[List.getElem?_append_left (by omega)];exact q1) q2 q3),
   mk_enc rg b (vs.drop a.n) (qs.drop a.n) (by simp;omega) (by simp;omega) (fun k u v q q1 q2 q3=>by
    rw[List.getElem?_drop]at q2 q3;exact h (a.n+k) u v q (by simp only[Ty.leaves];rw[List.getElem?_append_right (by omega),la];simpa using q1) q2 q3)]
  exact List.take_append_drop a.n qs
 | .int _,[],_,h,_,_=>by simp[Ty.n]at h
 | .int _,_::_::_,_,h,_,_=>by simp[Ty.n]at h
 | .int _,[_],[],_,h,_=>by simp[Ty.n]at h
 | .int _,[_],_::_::_,_,h,_=>by simp[Ty.n]at h
 | .bool,[],_,h,_,_=>by simp[Ty.n]at h
 | .bool,_::_::_,_,h,_,_=>by simp[Ty.n]at h
 | .bool,[_],[],_,h,_=>by simp[Ty.n]at h
 | .bool,[_],_::_::_,_,h,_=>by simp[Ty.n]at h
 | .unit,_::_,_,h,_,_=>by simp[Ty.n]at h
 | .unit,[],_::_,_,h,_=>by simp[Ty.n]at h
 | .sl _ _,[],_,h,_,_=>by simp[Ty.n]at h
 | .sl _ _,_::_::_,_,h,_,_=>by simp[Ty.n]at h
 | .sl _ _,[_],[],_,h,_=>by simp[Ty.n]at h
 | .sl _ _,[_],_::_::_,_,h,_=>by simp[Ty.n]at h
 | .mp,[],_,h,_,_=>by simp[Ty.n]at h
 | .mp,_::_::_,_,h,_,_=>by simp[Ty.n]at h
 | .mp,[_],[],_,h,_=>by simp[Ty.n]at h
 | .mp,[_],_::_::_,_,h,_=>by simp[Ty.n]at h
theorem takeCells_cons {inner:Option Rg}{t:Ty}{ts:List Ty}{c:SC}{cs:List SC}{xs:List At}{rs:List Nat}(h:st.takeCells inner (t::ts) (c::cs)= .ok (xs,rs)):
 ∃x xs' rs',xs=x::xs'∧st.takeCells inner ts cs= .ok (xs',rs')/\
  ((t.isSl=false/\c= .v x/\x.ty st.ts=some t/\rs=rs')\/
   (∃e a,t= .sl e a/\inner=none/\c= .nil/\x= .nil (.sl e a)/\rs=rs')\/
   (∃e a r nl,t= .sl e a/\inner=none/\c= .h r/\st.rk r= .list e a x nl none/\a.flat=true/\rs'.contains r=false/\st.fix.contains r=false/\rs=r::rs')\/
   (∃e a rg,t= .sl e a/\inner=some rg/\c= .s rg x/\x.ty st.ts=some t/\rs=rs')):=by
 cases t with
 | sl e a=>
  simp only[St.takeCells]at h;have hb:=ok_bind h
  clear h
  obtain⟨⟨xs',rs'⟩,h1,h⟩:=hb;simp only at h;split at h
  ·simp only[Except.ok.injEq,Prod.mk.injEq]at h;exact⟨_,xs',rs',h.1.symm,h1,.inr (.inl ⟨e,a,rfl,rfl,rfl,rfl,h.2.symm⟩)⟩
  ·rename_i r;split at h
   ·rename_i e' a' val nl hr;split at h
    ·rename_i hc;simp only[Except.ok.injEq,Prod.mk.injEq]at h;obtain⟨rfl,rfl,hf,hn,hx⟩:=hc;exact⟨val,xs',rs',h.1.symm,h1,.inr (.inr (.inl ⟨_,_,r,nl,rfl,rfl,rfl,hr,hf,by simpa using hn,by simpa using hx,h.2.symm⟩))⟩
    ·cases h
   ·cases h
  ·rename_i rg rg' x;split at h
   ·rename_i hc;simp only[Except.ok.injEq,Prod.mk.injEq]at h;obtain⟨rfl,hx⟩:=hc;exact⟨x,xs',rs',h.1.symm,h1,.inr (.inr (.inr ⟨e,a,_,rfl,rfl,rfl,hx,h.2.symm⟩))⟩
   ·cases h
  ·cases h
 | _=>
  simp only[St.takeCells]at h;have hb:=ok_bind h
  clear h
  obtain⟨⟨xs',rs'⟩,h1,h⟩:=hb;simp only at h;split at h
  ·rename_i x;split at h
   ·rename_i hx;simp only[Except.ok.injEq,Prod.mk.injEq]at h;exact⟨x,xs',rs',h.1.symm,h1,.inl ⟨rfl,rfl,hx,h.2.symm⟩⟩
   ·cases h
  ·cases h
theorem isSl_flat:∀(t:Ty),t.flat=true->∀(k:Nat) (u:Ty),t.leaves[k]? =some u->(∃kd,u= .int kd)\/u= .bool
 | .int kd,_,k,u,h=>by
  have hk:k=0:=by have:=(List.getElem?_eq_some_iff.1 h).1;simp[Ty.leaves]at this;exact this
  subst hk;simp only[Ty.leaves,List.getElem?_cons_zero,Option.some.injEq]at h;exact .inl ⟨kd,h.symm⟩
 | .bool,_,k,u,h=>by
  have hk:k=0:=by have:=(List.getElem?_eq_some_iff.1 h).1;simp[Ty.leaves]at this;exact this
  subst hk;simp only[Ty.leaves,List.getElem?_cons_zero,Option.some.injEq]at h;exact .inr h.symm
 | .unit,_,k,u,h=>by simp[Ty.leaves]at h
 | .pr a b,hf,k,u,h=>by
  simp only[Ty.flat,Bool.and_eq_true]at hf;simp only[Ty.leaves,List.getElem?_append]at h;split at h
  ·exact isSl_flat a hf.1 k u h
  ·exact isSl_flat b hf.2 _ u h
 | .sl _ _,hf,_,_,_=>by simp[Ty.flat]at hf
 | .mp,hf,_,_,_=>by simp[Ty.flat]at hf
theorem take_flat (hi:TInv X D st ρ a w g)(inner:Option Rg):∀(ts:List Ty) (cs:List SC) (xs:List At) (rs:List Nat),(∀(k:Nat) (u:Ty),ts[k]? =some u->(∃kd,u= .int kd)\/u= .bool)->st.takeCells inner ts cs= .ok (xs,rs)->
 rs=[]/\cs.length=ts.length/\xs.length=ts.length/\(∀x∈xs,x.lt st.ts.length=true)/\∀(k:Nat) (u:Ty) (x:At) (q:C),ts[k]? =some u->xs[k]? =some x->(encL ρ cs)[k]? =some q->∀rg,enc rg u (mkv u [x.get ρ]).1=[q]
 | [],[],xs,rs,_,h=>by
  simp only[St.takeCells,Except.ok.injEq,Prod.mk.injEq]at h;obtain⟨rfl,rfl⟩:=h;exact⟨rfl,rfl,rfl,fun x hx=>by simp at hx,fun k u x q h1=>by simp at h1⟩
 | t::ts,c::cs,xs,rs,hf,h=>by
  obtain⟨x,xs',rs',rfl,h1,h2⟩:=takeCells_cons h;obtain⟨e1,e2,e3,e4,e5⟩:=take_flat hi inner ts cs xs' rs' (fun k u hu=>hf (k+1) u (by simpa using hu)) h1;have ht:=hf 0 t rfl;rcases h2 with⟨hs,rfl,hx,rfl⟩ | ⟨e,a,rfl,_⟩ | ⟨e,a,r,nl,rfl,_⟩ | ⟨e,a,rg,rfl,_⟩
  ·refine⟨e1,by simp[e2],by simp[e3],fun y hy=> ?_,fun k u y q q1 q2 q3 rg=> ?_⟩
   ·rcases List.mem_cons.1 hy with rfl | hy
    ·exact At.ty_lt hx
    ·exact e4 y hy
   ·cases k with
    | zero=>
     simp only[List.getElem?_cons_zero,Option.some.injEq,encL]at q1 q2 q3;subst q1 q2 q3;have hg:=At.ty_get hi.typ hx;rcases ht with⟨kd,rfl⟩ | rfl
     ·rw[V.int_of hg];simp only[SC.enc,mkv,enc,V.int];rw[V.int_of hg];rfl
     ·rw[V.bool_of hg];simp only[SC.enc,mkv,enc,V.bool];rw[V.bool_of hg];rfl
    | succ k=>exact e5 k u y q (by simpa using q1) (by simpa using q2) (by simpa[encL]using q3) rg
  ·rcases ht with⟨_,ht⟩ | ht<;>cases ht
  ·rcases ht with⟨_,ht⟩ | ht<;>cases ht
  ·rcases ht with⟨_,ht⟩ | ht<;>cases ht
 | [],_::_,_,_,_,h=>by simp[St.takeCells]at h
 | t::_,[],_,_,_,h=>by cases t<;>simp[St.takeCells]at h
theorem take_enc (hi:TInv X D st ρ a w g){inner:Option Rg}{t:Ty}{cs:List SC}{xs:List At}{rs:List Nat}(hf:t.flat=true)(h:st.takeCells inner t.leaves cs= .ok (xs,rs))(rg:Rg):
 rs=[]/\cs.length=t.n/\(∀x∈xs,x.lt st.ts.length=true)/\enc rg t (mkv t (xs.map (At.get ρ))).1=encL ρ cs:=by
 obtain⟨h1,h2,h3,h4,h5⟩:=take_flat hi inner t.leaves cs xs rs (isSl_flat t hf) h;have hl:=leaves_length t;refine⟨h1,by omega,h4,mk_enc rg t _ _ (by rw[List.length_map];omega) (by rw[encL_map,List.length_map];omega) fun k u v q q1 q2 q3=> ?_⟩;rw[List.getElem?_map,Option.map_eq_some_iff]at q2;obtain⟨x,hx,rfl⟩:=q2;exact h5 k u x q q1 hx q3 rg
end
end Go.Pu
/-
  Own work. A root's contents turn: what of a state stays.
-/
namespace Go.Pu
open Go Go.RowKit
set_option linter.unusedVariables false
theorem killL_get {ρ:Env}{all:Bool}{r:Nat}:∀(cs:List SC) (k:Nat) (q:C),(encL ρ (killL all r cs))[k]? =some q->∃q0,(encL ρ cs)[k]? =some q0/\True
 | [],k,q,hq=>by simp[killL,encL]at hq
 | c::cs,0,q,hq=>⟨c.enc ρ,by simp[encL],trivial⟩
 | c::cs,k+1,q,hq=>by
  simp only[killL,encL,List.getElem?_cons_succ]at hq;simpa[encL]using killL_get cs k q hq
theorem killL_length {all:Bool}{r:Nat}:∀(cs:List SC),(killL all r cs).length=cs.length
 | []=>by simp[killL]
 | c::cs=>by simp[killL,killL_length cs]
structure Stab (m:Nat)(all:Bool)(r:Nat)(w:World)(g:G)(w' :World)(g' :G):Prop where
 hd:∀l:Loc,(all=false\/l.1≠r)->(l.1≠r\/l.2=[])->l.1<m->g'.hdr l=g.hdr l
 reg:∀rg:Rg,rg≠some r->(∀r',rg=some r'→r' <m)->∀b,g.reg rg b->g'.reg rg b/\w'.heap[b]? =w.heap[b]?
section
variable {m:Nat} {all:Bool} {r:Nat} {w w' :World} {g g' :G} {ρ:Env}
theorem Stab.keepOut (S:Stab m all r w g w' g'){q:C}{v:Value}(h:CRep w g q v)(ho:C.Ok (fun l=>l.1≠r/\l.1<m) (fun rg=>rg≠some r/\∀r',rg=some r'→r' <m) q):CRep w' g' q v:=
 h.keep (fun l hl=>S.hd l (.inr hl.1) (.inl hl.1) hl.2) (fun rg hr=>S.reg rg hr.1 hr.2) ho
theorem okOut {c:SC}(h:c.okR (fun r' =>Nat.blt r' m && !(Nat.beq r' r)) (fun r' =>Nat.blt r' m && !(Nat.beq r' r))=true):C.Ok (fun l=>l.1≠r/\l.1<m) (fun rg=>rg≠some r/\∀r',rg=some r'→r' <m) (c.enc ρ):=by
 refine(SC.okR_ok c h).mono (fun l hl=> ?_) (fun rg hr=> ?_)
 ·simp only[plOf,Bool.and_eq_true,Nat.blt_eq,Bool.not_eq_true']at hl;exact⟨fun e=>by rw[e]at hl;simp at hl,hl.1⟩
 ·refine⟨fun e=> ?_,fun r' e=> ?_⟩
  ·have:=hr r e;simp at this
  ·have:=hr r' e;simp at this;exact this.1
theorem beqN {a b:Nat}(h:a≠b):Nat.beq a b=false:=by
 cases hb:Nat.beq a b with
 | false=>rfl
 | true=>exact absurd (Nat.eq_of_beq_eq_true hb) h
mutual
theorem kill_rep (S:Stab m all r w g w' g'):∀(c:SC) (v:Value),c.okR (fun r=>Nat.blt r m) (fun r=>Nat.blt r m)=true->CRep w g (c.enc ρ) v->CRep w' g' ((c.kill all r).enc ρ) v
 | .v x,v,hk,h=>by simp only[SC.kill];exact S.keepOut h (okOut rfl)
 | .s none x,v,hk,h=>by simp only[SC.kill];exact S.keepOut h (okOut rfl)
 | .s (some r') x,v,hk,h=>by
  simp only[SC.kill];by_cases e:r' =r
  ·subst e;simp only[Nat.beq_refl,cond_true,SC.enc];exact .gone v
  ·rw[beqN e];simp only[SC.okR]at hk;exact S.keepOut h (okOut (c:= .s (some r') x) (by simp only[SC.okR,hk,beqN e];rfl))
 | .nil,v,hk,h=>by simp only[SC.kill];exact S.keepOut h (okOut rfl)
 | .h r',v,hk,h=>by
  simp only[SC.kill];simp only[SC.okR,Nat.blt_eq]at hk;cases hb:(all && Nat.beq r' r)with
  | true=>simp only[cond_true,SC.enc];exact .gone v
  | false=>
   simp only[cond_false,SC.enc]at h ⊢;have:=hd_eq h;refine .hd _ _ (this.trans (S.hd (r',[]) ?_ (.inr rfl) hk).symm);cases all with
   | false=>exact .inl rfl
   | true=>right;intro e;subst e;simp at hb
 | .hn r' i k x,v,hk,h=>by
  simp only[SC.kill];by_cases e:r' =r
  ·subst e;simp only[Nat.beq_refl,cond_true,SC.enc];exact .gone v
  ·rw[beqN e];simp only[SC.okR,Bool.and_eq_true]at hk;exact S.keepOut h (okOut (c:= .hn r' i k x) (by simp only[SC.okR,hk.1,beqN e];rfl))
 | .hs r' lo hi x,v,hk,h=>by
  simp only[SC.kill];by_cases e:r' =r
  ·subst e;simp only[Nat.beq_refl,cond_true,SC.enc];exact .gone v
  ·rw[beqN e];simp only[SC.okR,Bool.and_eq_true]at hk;exact S.keepOut h (okOut (c:= .hs r' lo hi x) (by simp only[SC.okR,hk.1,beqN e];rfl))
 | .tk r' x,v,hk,h=>by
  simp only[SC.kill];simp only[SC.okR,Nat.blt_eq]at hk;cases hb:(all && Nat.beq r' r)with
  | true=>simp only[cond_true,SC.enc];exact .gone v
  | false=>
   simp only[cond_false,SC.enc]at h ⊢;have h1:=hd_eq (both_l h);have h2:CRep w g ((SC.s none x).enc ρ) v:=by simp only[SC.enc];exact both_r h
   have h3:=S.keepOut h2 (okOut rfl);simp only[SC.enc]at h3;refine .both _ _ _ (.hd _ _ (h1.trans (S.hd (r',[]) ?_ (.inr rfl) hk).symm)) h3;cases all with
   | false=>exact .inl rfl
   | true=>right;intro e;subst e;simp at hb
 | .rp none cells,v,hk,h=>by
  simp only[SC.kill,cond_false];simp only[SC.okR,Bool.true_and]at hk;simp only[SC.enc]at h ⊢;cases h with
  | rp _ _ b o f hS hcell hrep=>
   obtain⟨q1,q2⟩:=S.reg none (fun e=>by cases e) (fun r' e=>by cases e) b hS;refine .rp none _ b o f q1 (fun k q hq=> ?_) (fun k q hq=> ?_)
   ·obtain⟨q0,hq0,_⟩:=killL_get cells k q hq;rw[World.cell?_of_block (w:=w) q2];exact hcell k q0 hq0
   ·exact killL_rep S cells hk k q (f k) hq (fun q0 hq0=>hrep k q0 hq0)
 | .rp (some r') cells,v,hk,h=>by
  simp only[SC.kill];by_cases e:r' =r
  ·subst e;simp only[Nat.beq_refl,cond_true,SC.enc];exact .gone v
  ·rw[beqN e];simp only[SC.okR,Bool.and_eq_true,Nat.blt_eq]at hk;simp only[cond_false,SC.enc]at h ⊢;cases h with
   | rp _ _ b o f hS hcell hrep=>
    obtain⟨q1,q2⟩:=S.reg (some r') (fun e' =>by cases e';exact e rfl) (fun r2 e' =>by cases e';exact hk.1) b hS;refine .rp (some r') _ b o f q1 (fun k q hq=> ?_) (fun k q hq=> ?_)
    ·obtain⟨q0,hq0,_⟩:=killL_get cells k q hq;rw[World.cell?_of_block (w:=w) q2];exact hcell k q0 hq0
    ·exact killL_rep S cells hk.2 k q (f k) hq (fun q0 hq0=>hrep k q0 hq0)
 | .fn f caps,v,hk,h=>by
  simp only[SC.kill];simp only[SC.okR]at hk;simp only[SC.enc]at h ⊢;cases h with
  | fn _ _ vs hs hrep=>
   refine .fn f _ vs (by rw[hs,encL_map,encL_map,List.length_map,List.length_map,killL_length]) fun k q hq=> ?_
   exact killL_rep S caps hk k q _ hq (fun q0 hq0=>hrep k q0 hq0)
 | .gone,v,hk,h=>by simp only[SC.kill,SC.enc];exact .gone v
theorem killL_rep (S:Stab m all r w g w' g'):∀(cs:List SC),okL (fun r=>Nat.blt r m) (fun r=>Nat.blt r m) cs=true->∀(k:Nat) (q:C) (v:Value),(encL ρ (killL all r cs))[k]? =some q->(∀q0,(encL ρ cs)[k]? =some q0->CRep w g q0 v)->CRep w' g' q v
 | [],_,k,q,v,hq,_=>by simp[killL,encL]at hq
 | c::cs,hk,0,q,v,hq,h=>by
  simp only[okL,Bool.and_eq_true]at hk;simp only[killL,encL,List.getElem?_cons_zero,Option.some.injEq]at hq;subst hq;exact kill_rep S c v hk.1 (h _ (by simp[encL]))
 | c::cs,hk,k+1,q,v,hq,h=>by
  simp only[okL,Bool.and_eq_true]at hk;simp only[killL,encL,List.getElem?_cons_succ]at hq;exact killL_rep S cs hk.2 k q v hq (fun q0 hq0=>h q0 (by simpa[encL]using hq0))
end
theorem aggL_rep (S:Stab m all r w g w' g'){cs:List SC}{v:Value}(hk:okL (fun r=>Nat.blt r m) (fun r=>Nat.blt r m) cs=true)(h:AggRep w g (encL ρ cs) v):AggRep w' g' (encL ρ (killL all r cs)) v:=by
 obtain⟨vs,h1,h2,h3⟩:=h;refine⟨vs,h1,by rw[h2,encL_map,encL_map,List.length_map,List.length_map,killL_length],fun k q hq=> ?_⟩;obtain⟨q0,hq0,_⟩:=killL_get cs k q hq;obtain⟨u,hu,_⟩:=h3 k q0 hq0;refine⟨u,hu,killL_rep S cs hk k q u hq fun q1 hq1=> ?_⟩;obtain⟨u',hu',hr⟩:=h3 k q1 hq1;rw[hu]at hu';cases hu';exact hr
theorem SV.kill_rep {P:Program}(S:Stab m all r w g w' g')(sv:SV)(v:Value)(hk:sv.okR (fun r=>Nat.blt r m) (fun r=>Nat.blt r m)=true)(h:PRep P w g (sv.enc ρ) v):PRep P w' g' ((sv.kill all r).enc ρ) v:=by
 cases sv with
 | c x=>exact Pu.kill_rep S x v hk h
 | agg xs=>exact aggL_rep S hk h
 | ad r' e i k=>
  simp only[SV.kill];simp only[SV.okR,Nat.blt_eq]at hk;cases hb:(all && Nat.beq r' r)with
  | true=>trivial
  | false=>
   obtain⟨b,base,h1,h2⟩:=h;refine⟨b,base,?_,h2⟩;rw[S.hd (r',[]) ?_ (.inr rfl) hk]
   ·exact h1
   ·cases all with
    | false=>exact .inl rfl
    | true=>right;intro e;subst e;simp at hb
 | ra rg cells=>
  simp only[SV.okR,Bool.and_eq_true]at hk;have key:rg≠some r->PRep P w' g' (.ra rg (encL ρ (killL all r cells))) v:=fun hne=>by
   obtain⟨b,o,f,h1,h2,h3⟩:=h;obtain⟨q1,q2⟩:=S.reg rg hne (fun r' e=>by subst e;simpa using hk.1) b h1;refine⟨b,o,f,q1,h2,fun k q hq=> ?_⟩;obtain⟨q0,hq0,_⟩:=killL_get cells k q hq;refine⟨by rw[World.cell?_of_block (w:=w) q2];exact(h3 k q0 hq0).1,killL_rep S cells hk.2 k q (f k) hq fun q1 hq1=>(h3 k q1 hq1).2⟩
  simp only[SV.kill];cases rg with
  | none=>exact key (fun e=>by cases e)
  | some r' =>
   by_cases e:r' =r
   ·subst e;simp only[Nat.beq_refl,cond_true];trivial
   ·simp only[beqN e,cond_false];exact key (fun e' =>by cases e';exact e rfl)
 | tup rs=>
  simp only[SV.okR,List.all_eq_true]at hk;obtain⟨vs,h1,h2,h3⟩:=h;refine⟨vs,h1,by rw[h2];simp,fun k q hq=> ?_⟩;rw[List.getElem?_map,List.getElem?_map,Option.map_map,Option.map_eq_some_iff]at hq;obtain⟨y,hy,rfl⟩:=hq;obtain⟨u,hu,hr⟩:=h3 k (encR ρ y) (by rw[List.getElem?_map,hy];rfl);refine⟨u,hu,?_⟩;have hky:=hk y (List.mem_of_getElem? hy);unfold encR at hr ⊢;simp only[Function.comp];split at hr
  ·rename_i hb;rw[if_pos hb];exact aggL_rep S hky hr
  ·rename_i hb;rw[if_neg hb];obtain⟨y1,y2⟩:=y;simp only at hr hky ⊢;cases y2 with
   | nil=>simp only[killL,encL]at hr ⊢;exact .gone u
   | cons c cs=>
    simp only[killL,encL]at hr ⊢;simp only[okL,Bool.and_eq_true]at hky;exact Pu.kill_rep S c u hky.1 hr
 | und=>exact h
 | junk=>trivial
end
section
variable {X:Ctx} {D:Nat->Prop} {Γ:List FE} {st:St} {ρ:Env} {a:Act} {w w' :World} {g g' :G}
theorem kill_slot (st:St)(all:Bool)(r s:Nat):(st.kill all r).slot s=(st.slot s).kill all r:=by
 unfold St.kill St.slot;simp only[List.getD,List.getElem?_map];cases st.slots[s]? <;>rfl
theorem kill_rk (st:St)(all:Bool)(r s:Nat):(st.kill all r).rk s=(st.rk s).kill all r:=by
 unfold St.kill St.rk;simp only[List.getD,List.getElem?_map];cases st.roots[s]? <;>rfl
theorem setR_rk_ne {st:St}{r s:Nat}{k:RK}(h:s≠r):(st.setR r k).rk s=st.rk s:=by
 unfold St.setR St.rk;simp only[List.getD,List.getElem?_set_ne (Ne.symm h)]
theorem setR_rk (st:St)(r:Nat)(k:RK):(st.setR r k).rk r=k\/(st.setR r k).rk r= .dead:=by
 unfold St.setR St.rk;simp only[List.getD];by_cases h:r<st.roots.length
 ·left;rw[List.getElem?_set_self h];rfl
 ·right;rw[List.getElem?_eq_none (by simpa using h)];rfl
theorem other_rows {m:Nat}{all:Bool}{r r' :Nat}(S:Stab m all r w g w' g'){P:Program}{k:RK}{p:List (Nat×Nat)}{row:Row}(hne:r'≠r)(hlt:r' <m)(hk:k.okR (fun r=>Nat.blt r m) (fun r=>Nat.blt r m)=true)
 (hold:∀p row,k.rows ρ r' p=some row->RowRep P w g (r',p) row) (hown:∀b p,g.own b=some (r',p)->g'.own b=some (r',p)/\w'.heap[b]? =w.heap[b]?) (h:(k.kill all r).rows ρ r' p=some row):RowRep P w' g' (r',p) row:=by
 have hh:∀p,g'.hdr (r',p)=g.hdr (r',p):=fun p=>S.hd (r',p) (.inr hne) (.inl hne) hlt
 have plain:k.kill all r=k->(∀r2 e a v nl,k= .list e a v nl (some (some r2))->r2≠r)->(∀e cells,k≠.box e cells)->RowRep P w' g' (r',p) row:=fun e hin hb=>by
  rw[e]at h;refine(hold p row h).keep (pl:=fun l=>l.1=r') (pr:=fun rg=>rg≠some r/\∀r',rg=some r'→r' <m) (fun l hl=>by obtain⟨l1,l2⟩:=l;simp only at hl;subst hl;exact hh l2) (fun rg hr=>S.reg rg hr.1 hr.2) (hh p) (fun b hb=>hown b p hb) ?_
  have:=RK.okR_ok (ph:=fun _=>false) (pr:=fun r' =>Nat.blt r' m && !(Nat.beq r' r)) (pl:=fun l=>l.1=r') (ρ:=ρ) (r:=r') k ?_ (fun p _=>rfl) (fun l hl=>by simp[plOf]at hl) p row h
  ·cases row with
   | row bx nl e els=>exact fun i cs k q h1 h2=>(this i cs k q h1 h2).mono (fun _ h=>h) (fun rg hr=>⟨fun e=>by have:=hr r e;simp at this,fun r2 e=>by have:=hr r2 e;simp at this;exact this.1⟩)
   | mp kvs=>trivial
  ·cases k with
   | box e1 cells=>exact absurd rfl (hb e1 cells)
   | list e1 a v nl inner=>
    cases inner with
    | none=>rfl
    | some rg=>
     cases rg with
     | none=>rfl
     | some r2=>
      simp only[RK.okR]at hk ⊢;have hb1:=beqN (hin r2 e1 a v nl rfl);simp[hk,hb1]
   | _=>rfl
 cases k with
 | box e cells=>
  simp only[RK.kill]at h;cases p with
  | cons q p=>simp[RK.rows]at h
  | nil=>
   simp only[RK.rows,Option.some.injEq]at h;subst h;have:=hold [] _ rfl;cases this with
   | full _ _ _ _ b base n cap cs f hf=>
    have ho:=hown b [] hf.own;have hget:∀(i:Nat) (c:List C),[encL ρ (killL all r cells)][i]? =some c->i=0/\c=encL ρ (killL all r cells):=fun i c hc=>by
     cases i with
     | zero=>cases hc;exact⟨rfl,rfl⟩
     | succ i=>cases hc
    refine .full _ _ _ _ b base n cap cs f ⟨(hh []).trans hf.hd,ho.1,ho.2.trans hf.heap,hf.len,hf.hcap,hf.hmax,hf.fit,hf.pos,fun i c hc=> ?_,fun i c k x h1 h2=> ?_,fun i c k x h1 h2=> ?_,fun h=>by cases h⟩
    ·obtain⟨rfl,rfl⟩:=hget i c hc;have:=hf.size 0 _ rfl;rw[encL_map,List.length_map]at this ⊢;rw[killL_length];exact this
    ·obtain⟨rfl,rfl⟩:=hget i c h1;obtain⟨q0,hq0,_⟩:=killL_get cells k x h2;exact hf.cell 0 _ k q0 rfl hq0
    ·obtain⟨rfl,rfl⟩:=hget i c h1;exact killL_rep S cells hk k x _ h2 fun q0 hq0=>hf.rep 0 _ k q0 rfl hq0
 | list e a v nl inner=>
  cases inner with
  | none=>exact plain rfl (fun _ _ _ _ _ h=>by cases h) (fun _ _ h=>by cases h)
  | some rg=>
   cases rg with
   | none=>exact plain rfl (fun _ _ _ _ _ h=>by cases h) (fun _ _ h=>by cases h)
   | some r2=>
    by_cases e2:r2=r
    ·subst e2;simp only[RK.kill,Nat.beq_refl,cond_true,rows_dead]at h;cases h
    ·exact plain (by simp only[RK.kill,beqN e2,cond_false]) (fun r3 _ _ _ _ h=>by cases h;exact e2) (fun _ _ h=>by cases h)
 | listH e a v nl i k=>exact plain rfl (fun _ _ _ _ _ h=>by cases h) (fun _ _ h=>by cases h)
 | mp v=>exact plain rfl (fun _ _ _ _ _ h=>by cases h) (fun _ _ h=>by cases h)
 | dead=>exact plain rfl (fun _ _ _ _ _ h=>by cases h) (fun _ _ h=>by cases h)
theorem TInv.mut (h:TInv X D st ρ a w g)(hk:st.rok=true){all:Bool}{r:Nat}(S:Stab st.nr all r w g w' g')(hok:GOK X g' w')(k:RK)(hrows:∀p row,k.rows ρ r p=some row->RowRep X.P w' g' (r,p) row)
 (hfix:all=true->st.fix.contains r=false) (hown:∀b l,l.1≠r->g.own b=some l->g'.own b=some l/\w'.heap[b]? =w.heap[b]?) (dirty' :List (Nat×Bool))
 (hdirt:(∀b,D b->∃p q,p∈dirty'∧g'.own b=some (p.1,q)/\(p.2=true↔q≠[]))/\∀r b q,dirty' =[(r,true)]->g'.own b=some (r,q)->q≠[]->D b):
 TInv X D { ((st.kill all r).setR r k)with dirty:=dirty' } ρ a w' g' :=by
 unfold St.rok St.okR at hk;simp only[Bool.and_eq_true,List.all_eq_true,Nat.blt_eq]at hk;obtain⟨⟨hk1,hk2⟩,hk3⟩:=hk;have hs1:st.slots.all (SV.okR (fun r=>Nat.blt r st.nr) (fun r=>Nat.blt r st.nr))=true:=List.all_eq_true.2 hk1;have hs2:st.roots.all (RK.okR (fun r=>Nat.blt r st.nr) (fun r=>Nat.blt r st.nr))=true:=List.all_eq_true.2 hk2;refine⟨h.typ,⟨h.inv.size,h.inv.nodef,hok,fun s=> ?_,fun l row hl=> ?_⟩,fun r' hr' => ?_,hdirt⟩
 ·show PRep X.P w' g' (((st.kill all r).slot s).enc ρ) (a.tmps.getD s undef);rw[kill_slot];exact SV.kill_rep S _ _ (all_slot hs1 rfl s) (h.inv.slot s)
 ·have hl:RK.rows ρ l.1 (((st.kill all r).setR r k).rk l.1) l.2=some row:=hl;obtain⟨l1,l2⟩:=l;simp only at hl;by_cases e:l1=r
  ·subst e;rcases setR_rk (st.kill all l1) l1 k with e | e
   ·rw[e]at hl;exact hrows l2 row hl
   ·rw[e,rows_dead]at hl;cases hl
  ·rw[setR_rk_ne e,kill_rk]at hl;have hlt:l1<st.nr:=rk_lt (fun e0=>by rw[e0]at hl;simp only[RK.kill,rows_dead]at hl;cases hl);exact other_rows S e hlt (all_rk hs2 rfl l1) (fun p row hp=>h.inv.row (l1,p) row hp) (fun b p hb=>hown b _ e hb) hl
 ·rw[S.hd (r',[]) ?_ (.inr rfl) (hk3 r' hr')]
  ·exact h.fixd r' hr'
  ·cases all with
   | false=>exact .inl rfl
   | true=>
    right
    intro e;subst e;have h1:=hfix rfl;have hr2:r'∈st.fix:=hr';have h2:st.fix.contains r' =true:=by simpa using hr2
    rw[h1]at h2;cases h2
end
end Go.Pu
/-
  Own work. Stores.
-/
namespace Go.Pu
open Go Go.RowKit
set_option linter.unusedVariables false
theorem setRow_size (w:World)(b:Nat)(cs:Array Value):(w.setRow b cs).heap.size=w.heap.size:=by simp[World.setRow]
theorem run_storeVar {P:Program}{w:World}{t:TypeId}{v:Value}{b off:Nat}{cs:Array Value}{e:TypeId}(h0:0<szOf P t)(hv:v.cells.size=szOf P t)(h1:∀u∈v.cells.toList,u.oneCell' =true)(hh:w.heap[b]? =some (.cells cs e (0,0)))(hl:off+szOf P t<=cs.size):
 (storeVar t ⟨b,off,none⟩ v).run P w= .ok () (w.setRow b (cs.toList.take off++v.cells.toList++cs.toList.drop (off+v.cells.toList.length)).toArray):=by
 have hst:=run_storeCells_at P b off e v.cells.toList 0 cs w hh (by simp[hv];omega) h1;simp only[Nat.add_zero]at hst;simp[storeVar,run_sizeOf h0,hv,hst]
theorem vsplice_get (cs vs:List Value)(o:Nat)(ho:o+vs.length<=cs.length)(j:Nat):(cs.take o++vs++cs.drop (o+vs.length))[j]? =if o<=j/\j<o+vs.length then vs[j - o]? else cs[j]? :=splice_get cs o vs ho j
theorem seg_help {i i' k k' s m:Nat}(hk:k+m<=s)(hk' :k' <s)(hne:i'≠i)(h1:i*s+k<=i' *s+k')(h2:i' *s+k' <i*s+k+m):False:=by
 rcases Nat.lt_or_gt_of_ne hne with h | h
 ·have:(i' +1)*s<=i*s:=Nat.mul_le_mul_right s h;rw[Nat.add_mul,Nat.one_mul]at this;omega
 ·have:(i+1)*s<=i' *s:=Nat.mul_le_mul_right s h;rw[Nat.add_mul,Nat.one_mul]at this;omega
theorem set_get {α:Type}{l:List α}{i i' :Nat}{x y:α}(hi:i<l.length)(h:(l.set i x)[i']? =some y):(i' =i/\y=x)\/(i'≠i/\l[i']? =some y):=by
 by_cases hii:i' =i
 ·subst hii;rw[List.getElem?_set_self hi]at h;exact .inl ⟨rfl,(Option.some.inj h).symm⟩
 ·rw[List.getElem?_set_ne (Ne.symm hii)]at h;exact .inr ⟨hii,h⟩
section
variable {P:Program} {w:World} {g:G}
theorem row_write {l:Loc}{bx nl:Bool}{e:TypeId}{els els' :List (List C)}{b base n cap:Nat}{cs:Array Value}{f:Nat->Nat->Value}(hf:RowFull P w g l bx nl e els b base n cap cs f){i k:Nat}{c:List C}(hi:els[i]? =some c)
 {vs:List Value} (hk:k+vs.length<=szOf P e) {g' :G} (hhd:g'.hdr l=g.hdr l) (hown:g'.own b=some l)
 (hl:els'.length=els.length) (hsz:∀(i' :Nat) (c' :List C),els'[i']? =some c'→c'.length=szOf P e)
 (hcell:∀(i' :Nat) (c' :List C) (k' :Nat) (q:C),els'[i']? =some c'→c'[k']? =some q->
  let w' :=w.setRow b (cs.toList.take (base+(i*szOf P e+k))++vs++cs.toList.drop (base+(i*szOf P e+k)+vs.length)).toArray
  (i' =i/\k<=k'∧k' <k+vs.length/\∃u,vs[k' - k]? =some u/\CRep w' g' q u)\/(¬(i' =i/\k<=k'∧k' <k+vs.length)/\(∃c0 q0,els[i']? =some c0/\c0[k']? =some q0)/\CRep w' g' q (f i' k'))):
 RowRep P (w.setRow b (cs.toList.take (base+(i*szOf P e+k))++vs++cs.toList.drop (base+(i*szOf P e+k)+vs.length)).toArray) g' l (.row bx nl e els'):=by
 have hilt:i<els.length:=(List.getElem?_eq_some_iff.1 hi).1;have hoff:base+(i*szOf P e+k)+vs.length<=cs.toList.length:=by
  have h1:=hf.len;have h2:=hf.hcap;have h3:=hf.fit;have:(i+1)*szOf P e<=cap*szOf P e:=Nat.mul_le_mul_right _ (by omega);rw[Nat.add_mul,Nat.one_mul]at this;simp;omega
 have hrow:=setRow_heap w b cs (cs.toList.take (base+(i*szOf P e+k))++vs++cs.toList.drop (base+(i*szOf P e+k)+vs.length)).toArray e (0,0) hf.heap;refine .full _ _ _ _ b base n cap _ (fun i' k' =>if i' =i/\k<=k'∧k' <k+vs.length then vs.getD (k' - k) undef else f i' k') ⟨hhd.trans hf.hd,hown,hrow,by rw[hl];exact hf.len,hf.hcap,hf.hmax,?_,hf.pos,hsz,fun i' c' k' q q1 q2=> ?_,fun i' c' k' q q1 q2=> ?_,fun h=> ?_⟩
 ·rw[hf.fit];simp only[List.size_toArray,List.length_append,List.length_take,List.length_drop];simp at hoff ⊢;omega
 ·have hk' :k' <szOf P e:=by rw[<-hsz i' c' q1];exact(List.getElem?_eq_some_iff.1 q2).1
  rw[List.getElem?_toArray,vsplice_get _ _ _ hoff];rcases hcell i' c' k' q q1 q2 with⟨rfl,h1,h2,u,hu,_⟩ | ⟨hneg,⟨c0,q0,h1,h2⟩,_⟩
  ·rw[if_pos (by omega),if_pos ⟨rfl,h1,h2⟩];have:base+(i' *szOf P e+k') - (base+(i' *szOf P e+k))=k' - k:=by omega
   rw[this,List.getD,hu];rfl
  ·rw[if_neg hneg,if_neg ?_,Array.getElem?_toList]
   ·exact hf.cell i' c0 k' q0 h1 h2
   ·rintro⟨q3,q4⟩
    by_cases hii:i' =i
    ·subst hii;exact hneg ⟨rfl,by omega,by omega⟩
    ·exact seg_help (i:=i) (i' :=i') (k:=k) (k' :=k') (m:=vs.length) hk hk' hii (by omega) (by omega)
 ·rcases hcell i' c' k' q q1 q2 with⟨rfl,h1,h2,u,hu,hr⟩ | ⟨hneg,_,hr⟩
  ·show CRep _ _ q (if i' =i'∧k<=k'∧k' <k+vs.length then vs.getD (k' - k) undef else f i' k');rw[if_pos ⟨rfl,h1,h2⟩,List.getD,hu];exact hr
  ·show CRep _ _ q (if i' =i/\k<=k'∧k' <k+vs.length then vs.getD (k' - k) undef else f i' k');rw[if_neg hneg];exact hr
 ·intro e0;have:=hf.nonil h;rw[e0]at hl;simp at hl;exact this (List.eq_nil_of_length_eq_zero hl.symm)
theorem stab_write {m r b:Nat}{p:List (Nat×Nat)}{w' :World}(ho:g.own b=some (r,p))(hS:¬g.S b)(hh:∀b',b'≠b->w'.heap[b']? =w.heap[b']?):Stab m false r w g w' g:=by
 refine⟨fun _ _ _ _=>rfl,fun rg hne _ b' hb' =>⟨hb',hh b' fun e=> ?_⟩⟩;subst e;cases rg with
 | none=>exact hS hb'
 | some r' =>
  rcases hb' with hb' | ⟨q,hb'⟩
  ·exact hS hb'
  ·rw[ho]at hb';cases hb';exact hne rfl
end
section
variable {X:Ctx} {D:Nat->Prop} {Γ:List FE} {st:St} {ρ:Env} {a:Act} {w:World} {g:G}
theorem gok_write (h:GOK X g w){b:Nat}{l:Loc}(ho:g.own b=some l)(cs:Array Value):GOK X g (w.setRow b cs):=by
 obtain⟨h1,h2,h3⟩:=h.own b l ho;refine⟨h.chg.trans ⟨rfl,rfl,rfl,by rw[setRow_size];exact Nat.le_refl _,fun k hk hO=>setRow_other w b k _ ?_⟩,by rw[setRow_size];exact h.base,fun b' hb' =>by rw[setRow_size];exact h.S b' hb',fun b' l' hl=>by rw[setRow_size];exact h.own b' l' hl⟩;intro e;subst e
 rcases h1 with h1 | h1
 ·exact hO h1
 ·omega
variable {d:Nat} {x y:Operand} {t t' ty:TypeId} {ps:String} {af:Array Edge} {gd:Option (Nat×Bool)} {s:Step} {nr:Bool}
theorem store_box (hi:TInv X D st ρ a w g)(hk:st.rok=true){r:Nat}{e:TypeId}{cells cs:List SC}(hr:st.rk r= .box e cells)(k:Nat){vy:SV}(hy:st.val y= .ok vy)(hcs:st.cells vy= .ok cs)(hkl:k+cs.length<=cells.length)(hlt:cs.length=szOf X.P t)(h0:0<szOf X.P t)(hd:st.dirty=[])
 (haddr:∀b base,g.hdr (r,[])= .pointer (some ⟨b,base,none⟩)->a.eval x= .pointer (some ⟨b,base+k,none⟩)):
 (⟨none,.store t x y,ty,ps,af,gd⟩:Oper).wp X.P a w (fun a' w' =>∃g',TInv X D ((st.kill false r).setR r (.box e (splice (killL false r cells) k (killL false r cs)))) ρ a' w' g') (fun _ _ _=>False):=by
 have hrow:RowRep X.P w g (r,[]) (.row true false e [encL ρ cells]):=hi.inv.row (r,[]) _ (by simp only[hr,RK.rows]);have hk0:=hk;unfold St.rok St.okR at hk;simp only[Bool.and_eq_true]at hk;obtain⟨q1,q2⟩:=cells_rep hi hy hcs;cases hrow with
 | full _ _ _ _ b base n cap vs f hf=>
  have hdd:g.hdr (r,[])= .pointer (some ⟨b,base,none⟩):=hf.hd;have hx:=haddr b base hdd;have hlen:cells.length=szOf X.P e:=by have:=hf.size 0 _ rfl;rw[encL_map,List.length_map]at this;exact this
  have hfit:=hf.fit;have hn1:n=1:=by have:=hf.len;simpa using this
  have hcap:=hf.hcap;have hle:1*szOf X.P e<=cap*szOf X.P e:=Nat.mul_le_mul_right _ (by omega);have hone:∀u∈(a.eval y).cells.toList,u.oneCell' =true:=fun u hu=>by
   obtain⟨j,hj⟩:=List.getElem?_of_mem hu;have hjl:j<cs.length:=by rw[<-q1];have:=(List.getElem?_eq_some_iff.1 hj).1;simpa using this
   obtain⟨u',hu',_,h1⟩:=q2 j _ (List.getElem?_eq_getElem (by rw[encL_map,List.length_map];exact hjl));have:(a.eval y).cells[j]? =some u:=by simpa using hj
   rw[this]at hu';cases hu';exact h1
  have hrun:=run_storeVar (P:=X.P) (w:=w) (t:=t) (v:=a.eval y) (b:=b) (off:=base+k) (cs:=vs) (e:=e) h0 (by rw[q1,hlt]) hone hf.heap (by omega);unfold Oper.wp;simp only[execOp,hx,Instr.storeAt,Instr.sureAddr,Sem.run_bind,Sem.run_pure,Result.andThen_ok,hrun,Oper.upon];have hob:=hi.inv.ok.own b _ hf.own;have hoff:base+k=base+(0*szOf X.P e+k):=by omega
  rw[hoff];generalize hw' :w.setRow b (vs.toList.take (base+(0*szOf X.P e+k))++(a.eval y).cells.toList++vs.toList.drop (base+(0*szOf X.P e+k)+(a.eval y).cells.toList.length)).toArray=w';have S:Stab st.nr false r w g w' g:=stab_write hf.own hob.2.2 fun b' hb' =>by rw[<-hw'];exact setRow_other w b b' _ hb'
  refine⟨g,?_⟩;have hrk:RK.okR (fun r=>Nat.blt r st.nr) (fun r=>Nat.blt r st.nr) (.box e cells)=true:=by rw[<-hr];exact all_rk hk.1.2 rfl r
  have hcok:=rok_cells (rok_val hk0 hy) (cells_ok hcs).1;have hput:TInv X D { ((st.kill false r).setR r (.box e (splice (killL false r cells) k (killL false r cs))))with dirty:=st.dirty } ρ a w' g:=by
   refine hi.mut hk0 S (by rw[<-hw'];exact gok_write hi.inv.ok hf.own _) _ (fun p row hp=> ?_) (fun h=>by cases h) (fun b' l hl hb' =>⟨hb',?_⟩) st.dirty hi.dirt
   ·cases p with
    | cons q p=>simp[RK.rows]at hp
    | nil=>
     simp only[RK.rows,Option.some.injEq]at hp;subst hp;rw[<-hw'];refine row_write hf (i:=0) rfl (by simp[q1];omega) rfl hf.own rfl (fun i' c' hc' => ?_) (fun i' c' k' q hc' hq=> ?_)
     ·cases i' with
      | zero=>cases hc';rw[encL_map,List.length_map,splice_length _ _ _ (by rw[killL_length,killL_length];exact hkl),killL_length];exact hlen
      | succ i' =>cases hc'
     ·rw[hw'];cases i' with
      | succ i' =>cases hc'
      | zero=>
       cases hc';rw[encL_map,splice_map,splice_get _ _ _ (by simp[killL_length];exact hkl),List.length_map,killL_length]at hq;have hvl:(a.eval y).cells.toList.length=cs.length:=by simpa using q1
       split at hq
       ·rename_i hin
        left
        obtain⟨q0,hq0,_⟩:=killL_get (ρ:=ρ) (all:=false) (r:=r) cs (k' - k) q (by rw[encL_map];exact hq);obtain⟨u,hu,hr1,_⟩:=q2 (k' - k) q0 hq0;refine⟨rfl,hin.1,by omega,u,by simpa using hu,?_⟩;exact killL_rep S cs hcok (k' - k) q u (by rw[encL_map];exact hq) fun q3 hq3=>by rw[hq0]at hq3;cases hq3;exact hr1
       ·rename_i hin
        right
        obtain⟨q0,hq0,_⟩:=killL_get (ρ:=ρ) (all:=false) (r:=r) cells k' q (by rw[encL_map];exact hq);refine⟨fun h=>hin ⟨h.2.1,by omega⟩,⟨_,q0,rfl,hq0⟩,?_⟩;exact killL_rep S cells hrk k' q _ (by rw[encL_map];exact hq) fun q3 hq3=>hf.rep 0 _ k' q3 rfl hq3
   ·rw[<-hw'];refine setRow_other w b b' _ fun e0=> ?_
    subst e0;rw[hf.own]at hb';cases hb';exact hl rfl
  exact hput
theorem pathsOf_length:∀(t:Ty) (p:List Bool),(pathsOf p t).length=t.n
 | .int _,_=>rfl
 | .bool,_=>rfl
 | .unit,_=>rfl
 | .pr a b,p=>by simp only[pathsOf,List.length_append,pathsOf_length a,pathsOf_length b,Ty.n]
 | .sl _ _,_=>rfl
 | .mp,_=>rfl
theorem old_get (rg:Rg)(n:Nat){ρ:Env}:∀(t:Ty) (p:List Bool) (x:t.den),Ref.get ρ ⟨n,p⟩=⟨t,x⟩->t.flat=true->∀(k:Nat) (pth:List Bool) (u:Ty) (q:C),(pathsOf p t)[k]? =some pth->t.leaves[k]? =some u->(enc rg t x)[k]? =some q->enc rg u (mkv u [Ref.get ρ ⟨n,pth⟩]).1=[q]
 | .int kd,p,x,h,_,k,pth,u,q,h1,h2,h3=>by
  have hk:k=0:=by have:=(List.getElem?_eq_some_iff.1 h1).1;simp[pathsOf]at this;exact this
  subst hk;simp only[pathsOf,Ty.leaves,enc,List.getElem?_cons_zero,Option.some.injEq]at h1 h2 h3;subst h1 h2 h3;rw[h];rfl
 | .bool,p,x,h,_,k,pth,u,q,h1,h2,h3=>by
  have hk:k=0:=by have:=(List.getElem?_eq_some_iff.1 h1).1;simp[pathsOf]at this;exact this
  subst hk;simp only[pathsOf,Ty.leaves,enc,List.getElem?_cons_zero,Option.some.injEq]at h1 h2 h3;subst h1 h2 h3;rw[h];rfl
 | .unit,p,x,h,_,k,pth,u,q,h1,h2,h3=>by simp[pathsOf]at h1
 | .pr a b,p,x,h,hf,k,pth,u,q,h1,h2,h3=>by
  simp only[Ty.flat,Bool.and_eq_true]at hf;have ha:Ref.get ρ ⟨n,p++[false]⟩=⟨a,x.1⟩:=by simp only[Ref.get,proj_app]at h ⊢;rw[h];rfl
  have hb:Ref.get ρ ⟨n,p++[true]⟩=⟨b,x.2⟩:=by simp only[Ref.get,proj_app]at h ⊢;rw[h];rfl
  simp only[pathsOf,Ty.leaves,enc,List.getElem?_append,pathsOf_length,leaves_length,enc_length]at h1 h2 h3;split at h1
  ·rename_i hk;rw[if_pos hk]at h2 h3;exact old_get rg n a _ x.1 ha hf.1 k pth u q h1 h2 h3
  ·rename_i hk;rw[if_neg hk]at h2 h3;exact old_get rg n b _ x.2 hb hf.2 _ pth u q h1 h2 h3
 | .sl _ _,_,_,_,hf,_,_,_,_,_,_,_=>by simp[Ty.flat]at hf
 | .mp,_,_,_,hf,_,_,_,_,_,_,_=>by simp[Ty.flat]at hf
theorem splice_enc (hi:TInv X D st ρ a w g){b:Ty}{y:b.den}{n k:Nat}{cs:List SC}{xs:List At}{rs:List Nat}{ρ1:Env}(hf:b.flat=true)(hn:Ref.get (ρ++ρ1) ⟨n,[]⟩=⟨b,y⟩)(hk:k+cs.length<=b.n)(ht:st.takeCells none (b.cellTy k cs.length) cs= .ok (xs,rs))(rg:Rg):
 enc rg b (mkv b ((splice (oldAtoms n b) k xs).map (At.get (ρ++ρ1)))).1=splice (enc rg b y) k (encL ρ cs):=by
 have hflat:=isSl_flat b hf;have hcl:∀(j:Nat) (u:Ty),(b.cellTy k cs.length)[j]? =some u->b.leaves[k+j]? =some u/\j<cs.length:=fun j u hj=>by
  unfold Ty.cellTy at hj;rw[List.getElem?_take]at hj;split at hj
  ·rw[List.getElem?_drop]at hj;exact⟨hj,by assumption⟩
  ·cases hj
 obtain⟨h1,h2,h3,h4,h5⟩:=take_flat hi none (b.cellTy k cs.length) cs xs rs (fun j u hj=>hflat _ u (hcl j u hj).1) ht;have hxl:xs.length=cs.length:=by omega
 have hol:(oldAtoms n b).length=b.n:=by unfold oldAtoms;rw[List.length_map,pathsOf_length]
 refine mk_enc rg b _ _ (by rw[List.length_map,splice_length _ _ _ (by omega)];exact hol) (by rw[splice_length _ _ _ (by rw[enc_length,encL_map,List.length_map];exact hk),enc_length]) fun j u v q q1 q2 q3=> ?_
 rw[List.getElem?_map,Option.map_eq_some_iff]at q2;obtain⟨x,hx,rfl⟩:=q2;rw[splice_get _ _ _ (by omega)]at hx;rw[splice_get _ _ _ (by rw[enc_length,encL_map,List.length_map];exact hk),encL_map,List.length_map]at q3;rw[hxl]at hx;split at hx
 ·rename_i hin;rw[if_pos hin]at q3;have hlt:=h4 x (List.mem_of_getElem? hx);rw[At.get_app (by rw[hi.len];exact hlt)];refine h5 (j - k) u x q ?_ hx (by rw[encL_map];exact q3) rg;unfold Ty.cellTy;rw[List.getElem?_take,if_pos (by omega),List.getElem?_drop];have:k+(j - k)=j:=by omega
  rw[this];exact q1
 ·rename_i hin;rw[if_neg hin]at q3;unfold oldAtoms at hx;rw[List.getElem?_map,Option.map_eq_some_iff]at hx;obtain⟨pth,hp,rfl⟩:=hx;exact old_get rg n b [] y hn hf j pth u q hp q1 q3
theorem store_list (hi:TInv X D st ρ a w g)(hw:st.wf=true)(hk:st.rok=true){r:Nat}{e:TypeId}{b:Ty}{v:At}{nl:Bool}{i:At}{k:Nat}{cs:List SC}{xs:List At}{rs:List Nat}{vy:SV}{ρ' :Env}
 (hr:st.rk r= .list e b v nl none) (hx:st.val x= .ok (.ad r e i k)) (hy:st.val y= .ok vy) (hcs:st.cells vy= .ok cs) (hlt:cs.length=szOf X.P t) (h0:0<szOf X.P t) (hf:b.flat=true) (hvt:v.ty st.ts=some (.sl e b)) (hil:i.lt st.ts.length=true) (hkl:k+cs.length<=b.n) (hbn:b.n=szOf X.P e)
 (ht:st.takeCells none (b.cellTy k cs.length) cs= .ok (xs,rs))
 (hev:evalB Γ [.get v i,.mk b (splice (oldAtoms st.nx b) k xs),.set v i (.r ⟨st.nx+1,[]⟩)] ρ=some ρ'):
 (⟨none, .store t x y, ty, ps, af, gd⟩ : Oper).wp X.P a w (fun a' w' => ∃ g', TInv X D (((((st.bind b).bind b).bind (.sl e b)).kill false r).setR r (.list e b (.r ⟨st.nx + 2, []⟩) nl none)) ρ' a' w' g') (fun _ _ _ => False) := by
 have hrow:=row_of hi hr;obtain⟨q1,q2⟩:=cells_rep hi hy hcs;have hvg:=V.list_of (At.ty_get hi.typ hvt);generalize hxs:(v.get ρ).as (.sl e b)=zs at hrow hvg;obtain⟨v1,hv1,hev⟩:=evalB_cons hev;obtain⟨v2,hv2,hev⟩:=evalB_cons hev;obtain⟨v3,hv3,hev⟩:=evalB_cons hev;have:=evalB_nil hev;subst this;simp only[Ex.den1,Ex.den,hvg,Option.bind_eq_some_iff,Option.some.injEq]at hv1;obtain⟨z,hz,rfl⟩:=hv1;obtain⟨z0,z1,z2⟩:=gget_ok hz;have hlen:=hi.len;have hnx:st.nx=ρ.length:=by rw[hlen];rfl
 have hg1:Ref.get (ρ++[⟨b,z⟩]) ⟨st.nx,[]⟩=⟨b,z⟩:=by
  have:(st.ref).get (ρ++[⟨b,z⟩])=⟨b,z⟩:=ref_get hi.len;exact this
 have henc:=splice_enc hi (ρ1:=[⟨b,z⟩]) hf hg1 hkl ht none;simp only[Ex.den1,Ex.den,Option.some.injEq]at hv2;generalize hz2:(mkv b ((splice (oldAtoms st.nx b) k xs).map (At.get (ρ++[⟨b,z⟩])))).1=zn at hv2 henc;subst hv2;have hva:At.get ((ρ++[⟨b,z⟩])++[⟨b,zn⟩]) v=⟨.sl e b,zs⟩:=by
  rw[List.append_assoc,At.get_app (by rw[hi.len];exact At.ty_lt hvt)];exact hvg
 have hia:At.get ((ρ++[⟨b,z⟩])++[⟨b,zn⟩]) i=i.get ρ:=by
  rw[List.append_assoc,At.get_app (by rw[hi.len];exact hil)]
 have hna:At.get ((ρ++[⟨b,z⟩])++[⟨b,zn⟩]) (.r ⟨st.nx+1,[]⟩)=⟨b,zn⟩:=by
  simp only[At.get,Ref.get,V.proj,hnx];simp[List.getD]
 simp only[Ex.den1,Ex.den,hva,hia,hna,V.as_self,Option.some.injEq]at hv3;subst hv3;have hi3:TInv X D (((st.bind b).bind b).bind (.sl e b)) (((ρ++[⟨b,z⟩])++[⟨b,zn⟩])++[⟨.sl e b,gset zs (i.get ρ).int zn⟩]) a w g:=by
  have:=hi.grow hw [⟨b,z⟩,⟨b,zn⟩,⟨.sl e b,gset zs (i.get ρ).int zn⟩];simpa[St.bind]using this
 obtain⟨b',base',hd1,hxe⟩:=val_rep hi hx;generalize hN:(i.get ρ).int.toNat=N at*;generalize hels:(zs.mapIdx fun i y=>encIn none r i b y)=els at hrow;have hget:els[N]? =some (encE r N 0 b z):=by rw[<-hels,List.getElem?_mapIdx,z2];rfl
 cases hrow with
 | nil=>simp at hget
 | zero=>simp at hget
 | full _ _ _ _ bb base n cap vs f hrf=>
  have hbb:b' =bb/\base' =base:=by
   have hd:=hrf.hd;rw[hd]at hd1;rcases hd1 with⟨_,_,h1⟩ | h1<;>simp[hdrOf]at h1
   exact⟨h1.1.1.symm,h1.1.2.symm⟩
  obtain⟨rfl,rfl⟩:=hbb;have hone:∀u∈(a.eval y).cells.toList,u.oneCell' =true:=fun u hu=>by
   obtain⟨j,hj⟩:=List.getElem?_of_mem hu;have hjl:j<cs.length:=by rw[<-q1];have:=(List.getElem?_eq_some_iff.1 hj).1;simpa using this
   obtain⟨u',hu',_,h1⟩:=q2 j _ (List.getElem?_eq_getElem (by rw[encL_map,List.length_map];exact hjl));have:(a.eval y).cells[j]? =some u:=by simpa using hj
   rw[this]at hu';cases hu';exact h1
  have hoffle:base' +(N*szOf X.P e+k)+szOf X.P t<=vs.size:=by
   have h1:=hrf.len;have h2:=hrf.hcap;have h3:=hrf.fit;have h4:=(List.getElem?_eq_some_iff.1 hget).1;have:(N+1)*szOf X.P e<=cap*szOf X.P e:=Nat.mul_le_mul_right _ (by omega);rw[Nat.add_mul,Nat.one_mul]at this;omega
  have hrun:=run_storeVar (P:=X.P) (w:=w) (t:=t) (v:=a.eval y) (b:=b') (off:=base' +(N*szOf X.P e+k)) (cs:=vs) (e:=e) h0 (by rw[q1,hlt]) hone hrf.heap hoffle;have hxe2:a.eval x= .pointer (some ⟨b',base' +(N*szOf X.P e+k),none⟩):=by rw[hxe];unfold At.nat;rw[hN]
  unfold Oper.wp;simp only[execOp,hxe2,Instr.storeAt,Instr.sureAddr,Sem.run_bind,Sem.run_pure,Result.andThen_ok,hrun,Oper.upon];have hob:=hi.inv.ok.own b' _ hrf.own;generalize hw' :w.setRow b' (vs.toList.take (base' +(N*szOf X.P e+k))++(a.eval y).cells.toList++vs.toList.drop (base' +(N*szOf X.P e+k)+(a.eval y).cells.toList.length)).toArray=w';have S:Stab (((st.bind b).bind b).bind (.sl e b)).nr false r w g w' g:=stab_write hrf.own hob.2.2 fun b2 hb2=>by rw[<-hw'];exact setRow_other w b' b2 _ hb2
  refine⟨g,?_⟩;have hvl:(a.eval y).cells.toList.length=cs.length:=by simpa using q1
  have hzl:els.length=zs.length:=by rw[<-hels];simp
  have hNl:N<zs.length:=by rw[<-hzl];exact(List.getElem?_eq_some_iff.1 hget).1
  have hkn:TInv X D { (((((st.bind b).bind b).bind (.sl e b)).kill false r).setR r (.list e b (.r ⟨st.nx+2,[]⟩) nl none))with dirty:=st.dirty } (((ρ++[⟨b,z⟩])++[⟨b,zn⟩])++[⟨.sl e b,gset zs (i.get ρ).int zn⟩]) a w' g:=by
   refine hi3.mut (rok_bind (rok_bind (rok_bind hk _) _) _) S (by rw[<-hw'];exact gok_write hi.inv.ok hrf.own _) _ (fun p row hp=> ?_) (fun h=>by cases h) (fun b2 l hl hb2=>⟨hb2,?_⟩) st.dirty hi.dirt
   ·have hv3:(At.get (((ρ++[⟨b,z⟩])++[⟨b,zn⟩])++[⟨.sl e b,gset zs (i.get ρ).int zn⟩]) (.r ⟨st.nx+2,[]⟩)).as (.sl e b)=gset zs (i.get ρ).int zn:=by
     have:At.get (((ρ++[⟨b,z⟩])++[⟨b,zn⟩])++[⟨.sl e b,gset zs (i.get ρ).int zn⟩]) (.r ⟨st.nx+2,[]⟩)=⟨.sl e b,gset zs (i.get ρ).int zn⟩:=by
      simp only[At.get,Ref.get,V.proj,hnx];simp[List.getD]
     rw[this];exact V.as_self _ _
    have hset:gset zs (i.get ρ).int zn=zs.set N zn:=by unfold gset;rw[hN]
    cases p with
    | cons q p=>
     obtain⟨_,rfl,y',_,hs⟩:=rows_cons_list hp;have:∀(t:Ty) (k j:Nat) (x:t.den),t.flat=true->subRow k t x j=none:=by
      intro t
      induction t with
      | pr a b iha ihb=>
       intro k j x hf;simp only[Ty.flat,Bool.and_eq_true]at hf;simp only[subRow];cases Nat.blt j (k+a.n)
       ·exact ihb _ _ _ hf.2
       ·exact iha _ _ _ hf.1
      | sl e a=>intro k j x hf;simp[Ty.flat]at hf
      | _=>intro k j x hf;simp[subRow]
     rw[this _ _ _ _ hf]at hs;cases hs
    | nil=>
     rw[rows_nil_list,hv3,hset]at hp;simp only[Option.some.injEq]at hp;subst hp;rw[<-hw'];have hget' :∀(i' :Nat) (c' :List C),((zs.set N zn).mapIdx fun i y=>encIn none r i b y)[i']? =some c'→(i' =N/\c' =splice (enc none b z) k (encL ρ cs))\/(i'≠N/\els[i']? =some c'):=fun i' c' hc' =>by
      rw[List.getElem?_mapIdx,Option.map_eq_some_iff]at hc';obtain⟨y',hy',rfl⟩:=hc';rcases set_get hNl hy' with⟨rfl,rfl⟩ | ⟨hne,hy'⟩
      ·left
       exact⟨rfl,by simp only[encIn,encE_flat r i' none 0 b _ hf];exact henc⟩
      ·right
       exact⟨hne,by rw[<-hels,List.getElem?_mapIdx,hy'];rfl⟩
     refine row_write hrf hget (by rw[hvl];omega) rfl hrf.own (by rw[hzl];simp) (fun i' c' hc' => ?_) (fun i' c' k' q hc' hq=> ?_)
     ·rcases hget' i' c' hc' with⟨rfl,rfl⟩ | ⟨_,hc'⟩
      ·rw[splice_length _ _ _ (by rw[enc_length,encL_map,List.length_map];exact hkl),enc_length];exact hbn
      ·exact hrf.size i' c' hc'
     ·rw[hw'];have scal:∀(q:C) (u:Value),CRep w g q u->(∃kd z,q= .int kd z)\/(∃bv,q= .bool bv)->CRep w' g q u:=fun q u hq hsc=>by
       rcases hsc with⟨kd,z,rfl⟩ | ⟨bv,rfl⟩
       ·cases hq;exact .int _ _
       ·cases hq;exact .bool _
      have flatc:∀(t:Ty) (x:t.den) (j:Nat) (q:C),t.flat=true->(enc none t x)[j]? =some q->(∃kd z,q= .int kd z)\/(∃bv,q= .bool bv):=by
       intro t
       induction t with
       | int kd=>intro x j q _ hj;have hk:j=0:=by { have:=(List.getElem?_eq_some_iff.1 hj).1;simp[enc]at this;exact this };subst hk;simp only[enc,List.getElem?_cons_zero,Option.some.injEq]at hj;exact .inl ⟨kd,x,hj.symm⟩
       | bool=>intro x j q _ hj;have hk:j=0:=by { have:=(List.getElem?_eq_some_iff.1 hj).1;simp[enc]at this;exact this };subst hk;simp only[enc,List.getElem?_cons_zero,Option.some.injEq]at hj;exact .inr ⟨x,hj.symm⟩
       | unit=>intro x j q _ hj;simp[enc]at hj
       | pr a b iha ihb=>
        intro x j q hf hj;simp only[Ty.flat,Bool.and_eq_true]at hf;simp only[enc,List.getElem?_append]at hj;split at hj
        ·exact iha _ _ _ hf.1 hj
        ·exact ihb _ _ _ hf.2 hj
       | sl e a=>intro x j q hf;simp[Ty.flat]at hf
       | mp=>intro x j q hf;simp[Ty.flat]at hf
      rcases hget' i' c' hc' with⟨rfl,rfl⟩ | ⟨hne,hc'⟩
      ·rw[<-henc]at hq;have hsc:=flatc b zn k' q hf hq;rw[henc,splice_get _ _ _ (by rw[enc_length,encL_map,List.length_map];exact hkl),encL_map,List.length_map]at hq;split at hq
       ·rename_i hin
        left
        obtain⟨u,hu,hr1,_⟩:=q2 (k' - k) q (by rw[encL_map];exact hq);exact⟨rfl,hin.1,by omega,u,by simpa using hu,scal q u hr1 hsc⟩
       ·rename_i hin
        right
        have hq' :(encE r i' 0 b z)[k']? =some q:=by rw[encE_flat r i' none 0 b _ hf];exact hq
        exact⟨fun h=>hin ⟨h.2.1,by omega⟩,⟨_,q,hget,hq'⟩,scal q _ (hrf.rep _ _ k' q hget hq') hsc⟩
      ·right
       refine⟨fun h=>hne h.1,⟨c',q,hc',hq⟩,scal q _ (hrf.rep _ _ k' q hc' hq) ?_⟩;rw[<-hels,List.getElem?_mapIdx,Option.map_eq_some_iff]at hc';obtain⟨y',_,rfl⟩:=hc';simp only[encIn,encE_flat r i' none 0 b _ hf]at hq;exact flatc b y' k' q hf hq
   ·rw[<-hw'];refine setRow_other w b' b2 _ fun e0=> ?_
    subst e0;rw[hrf.own]at hb2;cases hb2;exact hl rfl
  exact hkn
theorem store0_ok (h:stepStore0 X.P st t x y= .ok s):WStep X D Γ false st ⟨none,.store t x y,ty,ps,af,gd⟩ s:=by
 unfold stepStore0 at h;obtain⟨vy,hy,h⟩:=ok_bind h;obtain⟨cs,hcs,h⟩:=ok_bind h;by_cases hc:(cs.length=szOf X.P t/\0<szOf X.P t/\st.dirty.isEmpty=true)
 ·rw[if_neg (fun hh=>hh hc)]at h;have hb:=ok_bind h
  clear h
  obtain⟨vx,hx,h⟩:=hb;have hd0:st.dirty=[]:=by simpa using hc.2.2
  have fin : ∀ {ρ' a w s'}, (⟨none, .store t x y, ty, ps, af, gd⟩ : Oper).wp X.P a w (fun a' w' => ∃ g', TInv X D s' ρ' a' w' g') (fun _ _ _ => False) → (⟨none, .store t x y, ty, ps, af, gd⟩ : Oper).wp X.P a w (fun a' w' => (false = true → RelD D w w') ∧ ∃ g', TInv X D s' ρ' a' w' g') (fun _ _ _ => False) := fun hh =>
   Oper.wp_mono (fun a' w' h=>⟨fun e=>(by cases e),h⟩) hh
  split at h
  ·rename_i r;split at h
   ·rename_i e cells hr;split at h
    ·rename_i hl;simp only[Except.ok.injEq]at h;subst h;intro ρ ρ' a w g hi hw hk he;have:=evalB_nil he;subst this;refine fin (store_box hi hk hr 0 hy hcs (by omega) hc.1 hc.2.1 hd0 fun b base hd=> ?_);have hp:=val_rep hi hx;simp only[SV.enc,SC.enc]at hp;exact(hd_eq hp).trans hd
    ·cases h
   ·cases h
  ·rename_i r ex i k;split at h
   ·rename_i e cells hr;split at h
    ·rename_i hl;obtain⟨hl1,hl2,hl3⟩:=hl;simp only[Except.ok.injEq]at h;subst h hl2 hl3;intro ρ ρ' a w g hi hw hk he;have:=evalB_nil he;subst this;refine fin (store_box hi hk hr k hy hcs hl1 hc.1 hc.2.1 hd0 fun b base hd=> ?_);have hp:=val_rep hi hx;exact ad_box hi (by simpa[SV.enc,At.nat,At.get,V.int]using hp) hd
    ·cases h
   ·rename_i e b v nl hr;by_cases hl:(ex=e/\b.flat=true/\v.ty st.ts=some (.sl e b)/\i.lt st.ts.length=true/\k+cs.length<=b.n/\b.n=szOf X.P e)
    ·rw[if_neg (fun hh=>hh hl)]at h;have hb:=ok_bind h
     clear h
     obtain⟨⟨xs,rs⟩,ht,h⟩:=hb;simp only[Except.ok.injEq]at h;subst h;obtain⟨rfl,l2,l3,l4,l5,l6⟩:=hl;intro ρ ρ' a w g hi hw hk he;exact fin (store_list (Γ:=Γ) hi hw hk hr hx hy hcs hc.1 hc.2.1 l2 l3 l4 l5 l6 ht he)
    ·rw[if_pos hl]at h;cases h
   ·cases h
  ·cases h
 ·rw[if_pos hc]at h;cases h
theorem assign_ok {x:Operand}(hN:d<X.N)(h:stepAssign st d x= .ok s)(hns:∀r lo hi v,st.val x≠.ok (.c (.hs r lo hi v))):QStep X D Γ st ⟨some d,.assign x,ty,ps,af,gd⟩ s:=by
 unfold stepAssign at h;obtain⟨v,hv,h⟩:=ok_bind h;split at h
 ·rename_i r lo hi x0;exact absurd hv (hns r lo hi x0)
 ·simp only[Except.ok.injEq]at h;subst h;exact q_put rfl hN fun ρ a w g hi=>⟨_,fun _ _=>rfl,val_rep hi hv⟩
end
end Go.Pu
/-
  Own work. Appends of flat elements onto owned lists.
-/
namespace Go.Pu
open Go Go.RowKit
set_option linter.unusedVariables false
structure AppRes (P:Program)(w w' :World)(e:TypeId)(bOld:Option Nat)(n m:Nat)(fo fn:Nat->Nat->Value)(v' :Value):Prop where
 ex:∃(b base cap:Nat) (cs:Array Value),v' = .slice (some ⟨b,base,none⟩) (n+m) cap/\n+m<=cap/\cap<=maxLen/\base+cap*szOf P e=cs.size/\w'.heap[b]? =some (.cells cs e (0,0))/\
  (∀i k,i<n->k<szOf P e->cs[base+(i*szOf P e+k)]? =some (fo i k))/\(∀i k,i<m->k<szOf P e->cs[base+((n+i)*szOf P e+k)]? =some (fn i k))/\
  (some b=bOld\/(w.heap.size<=b))/\(∀k,k<w.heap.size->k≠b->w'.heap[k]? =w.heap[k]?)
 os:w'.os=w.os
 tape:w'.tape=w.tape
 output:w'.output=w.output
 size:w.heap.size<=w'.heap.size
theorem flat_get (f:Nat->Nat->Value)(m s j:Nat)(hj:j<m*s):((List.range (m*s)).map fun j=>f (j/s) (j % s))[j]? =some (f (j/s) (j % s)):=by
 simp[hj]
theorem flat_get' (f:Nat->Nat->Value)(m s i k:Nat)(hi:i<m)(hk:k<s):((List.range (m*s)).map fun j=>f (j/s) (j % s))[i*s+k]? =some (f i k):=by
 have hlt:i*s+k<m*s:=by
  have:(i+1)*s<=m*s:=Nat.mul_le_mul_right s hi;rw[Nat.add_mul,Nat.one_mul]at this;omega
 rw[flat_get f m s _ hlt];have h1:(i*s+k)/s=i:=by rw[Nat.mul_comm,Nat.mul_add_div (by omega),Nat.div_eq_of_lt hk];rfl
 have h2:(i*s+k) % s=k:=by rw[Nat.mul_comm,Nat.mul_add_mod,Nat.mod_eq_of_lt hk]
 rw[h1,h2]
theorem flat_inv (f:Nat->Nat->Value)(m s j:Nat)(v:Value)(h:((List.range (m*s)).map fun j=>f (j/s) (j % s))[j]? =some v):j<m*s/\v=f (j/s) (j % s):=by
 have hj:=(List.getElem?_eq_some_iff.1 h).1;simp at hj;rw[flat_get f m s j hj]at h;exact⟨hj,(Option.some.inj h).symm⟩
section
variable {P:Program} {w:World} {t ty e:TypeId}
theorem run_append_zero {i:TypeInfo}(ht:P.underlying t=some (.slice e))(hi:P.info? e=some i)(A:Option Addr)(n cap:Nat)(hnc:n<=cap)(B:Option Addr)(c:Nat):
 (Builtin.append_ #[t,t] ty #[.slice A n cap,.slice B 0 c]).run P w= .ok (.slice A n cap) w:=by
 cases B<;>cases A<;>simp[Builtin.append_,run_underlying ht,sizeOf,typeInfo,hi,Builtin.lenOf,Builtin.firstCells,hnc,storeCells,loadCells,loadCellsFrom]
theorem run_append_room' {i:TypeInfo}(ht:P.underlying t=some (.slice e))(hi:P.info? e=some i)
 (g base sLen sCap:Nat) (cur:Array Value) (hg:w.heap[g]? =some (.cells cur e (0,0)))
 (a:Addr) (m c:Nat) (news:List Value) (hl:news.length=m*i.size) (hnews:∀(j:Nat) (u:Value),news[j]? =some u->w.cell? (a.add j)=some u) (h1:∀u∈news,u.oneCell' =true)
 (hroom:sLen+m<=sCap) (hfit:base+sLen*i.size+news.length<=cur.size):
 (Builtin.append_ #[t,t] ty #[.slice (some ⟨g,base,none⟩) sLen sCap,.slice (some a) m c]).run P w=
  .ok (.slice (some ⟨g,base,none⟩) (sLen+m) sCap) (w.setRow g (cur.toList.take (base+sLen*i.size)++news++cur.toList.drop (base+sLen*i.size+news.length)).toArray):=by
 have hf:=run_firstCells_some (P:=P) w i.size m a m c news hl hnews;have hst:=run_storeCells_at P g (base+sLen*i.size) e news 0 cur w hg (by simpa using hfit) h1;simp only[Nat.add_zero]at hst;simp[Builtin.append_,run_underlying ht,sizeOf,typeInfo,hi,Builtin.lenOf,hroom,hf,addr_add,hst]
theorem size_zeroCells' (z:Array Value)(n:Nat):(Builtin.zeroCells z n).size=n*z.size:=by simp[Builtin.zeroCells]
theorem run_append_own' {i:TypeInfo}{z:Value}(ht:P.underlying t=some (.slice e))(hi:P.info? e=some i)(hz:i.zero=some z)(hzs:z.cells.size=i.size)(hpos:0<i.size)
 (v:Value) (n m:Nat) (fo fn:Nat->Nat->Value) (bOld:Option Nat)
 (hv:(n=0/\(v= .slice none 0 0\/∃a,v= .slice (some a) 0 0))\/∃b base cap cs,v= .slice (some ⟨b,base,none⟩) n cap/\bOld=some b/\w.heap[b]? =some (.cells cs e (0,0))/\n<=cap/\cap<=maxLen/\base+cap*szOf P e=cs.size/\
  (∀i k,i<n->k<szOf P e->cs[base+(i*szOf P e+k)]? =some (fo i k)))
 (a:Addr) (c:Nat) (hm:0<m) (hcell:∀i k,i<m->k<szOf P e->w.cell? (a.add (i*szOf P e+k))=some (fn i k)) (h1:∀i k,i<m->k<szOf P e->(fn i k).oneCell' =true)
 (h63:n+m<=maxLen) (hby:(n+m)*i.bytes<=140737488355328):
 ∃v' w',(Builtin.append_ #[t,t] ty #[v,.slice (some a) m c]).run P w= .ok v' w'∧AppRes P w w' e bOld n m fo fn v' :=by
 have hsz:szOf P e=i.size:=by simp[szOf,hi]
 rw[hsz]at hcell h1
 let news:=(List.range (m*i.size)).map fun j=>fn (j/i.size) (j % i.size)
 have hnl:news.length=m*i.size:=by simp[news]
 have hdm:∀j,j<m*i.size->j/i.size<m/\j % i.size<i.size:=fun j hj=>⟨Nat.div_lt_of_lt_mul (by rw[Nat.mul_comm];exact hj),Nat.mod_lt _ hpos⟩
 have hnews:∀(j:Nat) (u:Value),news[j]? =some u->w.cell? (a.add j)=some u:=fun j u hu=>by
  obtain⟨hj,rfl⟩:=flat_inv fn m i.size j u hu;obtain⟨q1,q2⟩:=hdm j hj;have:=hcell _ _ q1 q2
  rwa [Nat.div_add_mod']at this
 have hn1:∀u∈news,u.oneCell' =true:=fun u hu=>by
  obtain⟨j,hj0⟩:=List.getElem?_of_mem hu;obtain⟨hj,rfl⟩:=flat_inv fn m i.size j u hj0;obtain⟨q1,q2⟩:=hdm j hj;exact h1 _ _ q1 q2
 have hsmall:n+m<=9223372036854775807:=by simp only[maxLen]at h63;omega
 have grown:∀(old:Nat) (olds:List Value),olds.length=n*i.size->(∀i0 k,i0<n->k<i.size->olds[i0*i.size+k]? =some (fo i0 k))->
  AppRes P w (w.drew.alloc (.cells (olds.toArray++news.toArray++Builtin.zeroCells z.cells (grownCap w (n+m) old e - (n+m))) e)) e bOld n m fo fn (.slice (some ⟨w.heap.size,0,none⟩) (n+m) (grownCap w (n+m) old e)):=by
  intro old olds hol hog;have hge:=grownCap_ge w (n+m) old e;have hcm:grownCap w (n+m) old e<=maxLen:=grownCap_le_maxLen w (n+m) old e h63;refine⟨⟨w.heap.size,0,_,_,rfl,hge,hcm,?_,heap_alloc_new w.drew _,?_,?_,.inr (Nat.le_refl _),fun k hk _=>Below.heap_alloc w.drew _ k hk⟩,rfl,rfl,rfl,by simp⟩
  ·simp only[Array.size_append,List.size_toArray,size_zeroCells',hzs,hol,hnl,hsz,<-Nat.add_mul,Nat.zero_add]
   congr 1
   omega
  ·intro i0 k hi0 hk;rw[hsz]at hk ⊢;have hlt:i0*i.size+k<n*i.size:=by
    have:(i0+1)*i.size<=n*i.size:=Nat.mul_le_mul_right _ hi0;rw[Nat.add_mul,Nat.one_mul]at this;omega
   rw[Array.append_assoc,Nat.zero_add,Array.getElem?_append_left (by simpa[hol]using hlt)];simpa using hog i0 k hi0 hk
  ·intro i0 k hi0 hk;rw[hsz]at hk ⊢;have hlt:i0*i.size+k<m*i.size:=by
    have:(i0+1)*i.size<=m*i.size:=Nat.mul_le_mul_right _ hi0;rw[Nat.add_mul,Nat.one_mul]at this;omega
   rw[Nat.add_mul,Nat.zero_add,Array.getElem?_append_left (by simp[hol,hnl];omega),Array.getElem?_append_right (by simp[hol];omega)];have e1:n*i.size+i0*i.size+k - olds.toArray.size=i0*i.size+k:=by simp[hol];omega
   rw[e1,List.getElem?_toArray];exact flat_get' fn m i.size i0 k hi0 hk
 rcases hv with⟨rfl,hv⟩ | ⟨b,base,cap,cs,rfl,rfl,hh,hnc,hcm,hcs,hold⟩
 ·have hg0:=grown 0 [] (by simp) (fun i0 k h=>absurd h (Nat.not_lt_zero _));rcases hv with rfl | ⟨a',rfl⟩
  ·have hr:=run_append_nil (P:=P) w t ty e i z ht hi hz a m c news hnl hnews hm (by omega) (by have hb:=hby;simp only[Nat.zero_add]at hb;omega);simp only[Nat.zero_add]at hg0;refine⟨_,_,hr,?_⟩;simpa using hg0
  ·have hr:=run_append_grow (P:=P) w t ty e i z ht hi hz a' 0 0 [] (by simp) (fun j v h=>by simp at h) a m c news hnl hnews (by omega) (by omega) (growslice_fits (by omega) hby);exact⟨_,_,hr,hg0⟩
 ·by_cases hroom:n+m<=cap
  ·rw[hsz]at hcs;have hfit:base+n*i.size+news.length<=cs.size:=by
    have:(n+m)*i.size<=cap*i.size:=Nat.mul_le_mul_right _ hroom;rw[Nat.add_mul]at this;omega
   have hfit' :base+n*i.size+news.length<=cs.toList.length:=by simpa using hfit
   have hr:=run_append_room' (P:=P) (w:=w) (ty:=ty) ht hi b base n cap cs hh a m c news hnl hnews hn1 hroom hfit;refine⟨_,_,hr,⟨⟨b,base,cap,_,rfl,hroom,hcm,?_,setRow_heap w b cs _ e _ hh,?_,?_,.inl rfl,fun k _ hk=>setRow_other w b k _ hk⟩,rfl,rfl,rfl,by rw[setRow_size];exact Nat.le_refl _⟩⟩
   ·rw[hsz];simp only[List.size_toArray,List.length_append,List.length_take,List.length_drop,Array.length_toList];omega
   ·intro i0 k hi0 hk;have hlt:i0*szOf P e+k<n*i.size:=by
     rw[hsz]at hk ⊢;have:(i0+1)*i.size<=n*i.size:=Nat.mul_le_mul_right _ hi0;rw[Nat.add_mul,Nat.one_mul]at this;omega
    rw[List.getElem?_toArray,vsplice_get _ _ _ hfit',if_neg (by omega),Array.getElem?_toList];exact hold i0 k hi0 hk
   ·intro i0 k hi0 hk;rw[hsz]at hk ⊢;have hlt:i0*i.size+k<m*i.size:=by
     have:(i0+1)*i.size<=m*i.size:=Nat.mul_le_mul_right _ hi0;rw[Nat.add_mul,Nat.one_mul]at this;omega
    rw[Nat.add_mul,List.getElem?_toArray,vsplice_get _ _ _ hfit',if_pos (by omega)];have e1:base+(n*i.size+i0*i.size+k) - (base+n*i.size)=i0*i.size+k:=by omega
    rw[e1];exact flat_get' fn m i.size i0 k hi0 hk
  ·let olds:=(List.range (n*i.size)).map fun j=>fo (j/i.size) (j % i.size)
   have hol:olds.length=n*i.size:=by simp[olds]
   have holds:∀(j:Nat) (u:Value),olds[j]? =some u->w.cell? ((⟨b,base,none⟩:Addr).add j)=some u:=fun j u hu=>by
    obtain⟨hj,rfl⟩:=flat_inv fo n i.size j u hu;have q1:j/i.size<n:=Nat.div_lt_of_lt_mul (by rw[Nat.mul_comm];exact hj);have:=hold _ (j % i.size) q1 (by rw[hsz];exact Nat.mod_lt _ hpos);rw[hsz,Nat.div_add_mod']at this;rw[addr_add,cell_of_row w b _ cs e (0,0) hh];exact this
   have hr:=run_append_grow (P:=P) w t ty e i z ht hi hz ⟨b,base,none⟩ n cap olds hol holds a m c news hnl hnews (by omega) (by omega) (growslice_fits (by omega) hby);exact⟨_,_,hr,grown cap olds hol (fun i0 k hi0 hk=>flat_get' fo n i.size i0 k hi0 hk)⟩
end
section
variable {X:Ctx} {D:Nat->Prop} {Γ:List FE} {st:St} {ρ:Env} {a:Act} {w:World} {g:G}
theorem src_view (hi:TInv X D st ρ a w g){c:SC}{v:At}{e:TypeId}{b:Ty}{u:Value}(hf:b.flat=true)(hbn:b.n=szOf X.P e)(h0:0<b.n)(hc:CRep w g (c.enc ρ) u)(hl:st.listVal c= .ok v)(ht:st.ty v= .ok (.sl e b)):
 ∃(A:Option Addr) (cap:Nat) (fn:Nat->Nat->Value),u= .slice A ((v.get ρ).as (.sl e b)).length cap/\
  (((v.get ρ).as (.sl e b):List b.den)≠[]->∃ad,A=some ad/\∀i k,i<((v.get ρ).as (.sl e b)).length->k<szOf X.P e->w.cell? (ad.add (i*szOf X.P e+k))=some (fn i k))/\
  ∀(i:Nat) (y:b.den) (k:Nat) (q:C),((v.get ρ).as (.sl e b):List b.den)[i]? =some y->(enc none b y)[k]? =some q->CRep w g q (fn i k):=by
 have fromRo:∀(rg:Rg) (els:List (List C)),CRep w g (.ro rg els) u->els.length=((v.get ρ).as (.sl e b)).length->(∀(i:Nat) (y:b.den),((v.get ρ).as (.sl e b):List b.den)[i]? =some y->els[i]? =some (enc none b y))->
  ∃(A:Option Addr) (cap:Nat) (fn:Nat->Nat->Value),u= .slice A ((v.get ρ).as (.sl e b)).length cap/\
  (((v.get ρ).as (.sl e b):List b.den)≠[]->∃ad,A=some ad/\∀i k,i<((v.get ρ).as (.sl e b)).length->k<szOf X.P e->w.cell? (ad.add (i*szOf X.P e+k))=some (fn i k))/\
  ∀(i:Nat) (y:b.den) (k:Nat) (q:C),((v.get ρ).as (.sl e b):List b.den)[i]? =some y->(enc none b y)[k]? =some q->CRep w g q (fn i k):=fun rg els h hlen hget=>by
  generalize (v.get ρ).as (.sl e b)=xs at hlen hget ⊢;cases h with
  | ro0 _ A cap=>
   have:xs=[]:=List.eq_nil_of_length_eq_zero hlen.symm;subst this;exact⟨A,cap,fun _ _=>undef,rfl,fun h=>absurd rfl h,fun i y k q h=>by simp at h⟩
  | ro _ _ bb off n cap s f hn hcap hm hS hs hsz hcell hrep=>
   refine⟨some ⟨bb,off,none⟩,cap,f,by rw[hn,hlen],fun hne=>⟨_,rfl,fun i k hi hk=> ?_⟩,fun i y k q h1 h2=>hrep i _ k q (hget i y h1) h2⟩;have hx:(xs:List b.den)[i]? =some (xs[i]'hi):=List.getElem?_eq_getElem hi;have hg:=hget i _ hx;have hss:s=szOf X.P e:=by rw[<-hbn,<-hsz i _ hg,enc_length]
   rw[addr_add,<-hss];have hkl:k<(enc none b (xs[i]'hi)).length:=by rw[enc_length];omega
   exact hcell i _ k _ hg (List.getElem?_eq_getElem hkl)
 by_cases hh:∃r,c= .h r
 ·obtain⟨r,rfl⟩:=hh;obtain⟨e',b',nl,inner,hr,hv⟩:=listVal_h hl;have hee:=ty_inj ht (ok_ty hv);cases hee;simp only[SC.enc]at hc;have hro:=row_ro (row_of hi hr);rw[<-hd_eq hc]at hro;refine fromRo _ _ hro (by simp) fun i y hy=> ?_
  rw[List.getElem?_mapIdx,hy];simp only[Option.map_some,Option.some.injEq];cases inner with
  | none=>simp only[encIn];exact encE_flat r i none 0 b y hf
  | some rg=>simp only[encIn];exact enc_flat rg none b y hf
 ·have:=list_ro hi hc hl ht (fun r hr=>hh ⟨r,hr⟩);refine fromRo _ _ this (by simp) fun i y hy=> ?_
  rw[List.getElem?_map,hy];simp only[Option.map_some,Option.some.injEq];exact enc_flat _ none b y hf
theorem gapp_ok {α:Type}{bytes:Nat}{xs ys zs:List α}(h:gapp bytes xs ys=some zs):(xs.length+ys.length)*bytes<=140737488355328/\xs.length+ys.length<=140737488355328/\zs=xs++ys:=by
 unfold gapp at h;split at h
 ·rename_i hf;simp only[gfit,decide_eq_true_eq]at hf;simp only[Option.some.injEq]at h;exact⟨hf.1,hf.2,h.symm⟩
 ·cases h
theorem noD (hi:TInv X D st ρ a w g)(hd:st.dirty=[])(b:Nat):¬D b:=fun h=>by
 obtain⟨p,q,hp,_⟩:=hi.dirt.1 b h;rw[hd]at hp;cases hp
theorem zeroN_spec {P:Program}{e:TypeId}{n:Nat}(h:zeroN P e=some n):∃i z,P.info? e=some i/\i.zero=some z/\z.cells.size=n:=by
 unfold zeroN at h;cases hz:zeroSC P e with
 | none=>simp[hz]at h
 | some cs=>
  simp only[hz,Option.some.injEq]at h;obtain⟨i,z,h1,h2,rfl⟩:=zeroSC_spec hz;exact⟨i,z,h1,h2,by simpa using h⟩
variable {d:Nat} {x y:Operand} {t t' ty:TypeId} {ps:String} {af:Array Edge} {gd:Option (Nat×Bool)} {s:Step} {nr:Bool}
theorem flat_noRow:∀(t:Ty) (k j:Nat) (x:t.den),t.flat=true->subRow k t x j=none:=by
 intro t
 induction t with
 | pr a b iha ihb=>
  intro k j x hf;simp only[Ty.flat,Bool.and_eq_true]at hf;simp only[subRow];cases Nat.blt j (k+a.n)
  ·exact ihb _ _ _ hf.2
  ·exact iha _ _ _ hf.1
 | sl e a=>intro k j x hf;simp[Ty.flat]at hf
 | _=>intro k j x hf;simp[subRow]
theorem flat_scal:∀(t:Ty) (x:t.den) (j:Nat) (q:C),t.flat=true->(enc none t x)[j]? =some q->(∃kd z,q= .int kd z)\/(∃bv,q= .bool bv):=by
 intro t
 induction t with
 | int kd=>intro x j q _ hj;have hk:j=0:=by { have:=(List.getElem?_eq_some_iff.1 hj).1;simp[enc]at this;exact this };subst hk;simp only[enc,List.getElem?_cons_zero,Option.some.injEq]at hj;exact .inl ⟨kd,x,hj.symm⟩
 | bool=>intro x j q _ hj;have hk:j=0:=by { have:=(List.getElem?_eq_some_iff.1 hj).1;simp[enc]at this;exact this };subst hk;simp only[enc,List.getElem?_cons_zero,Option.some.injEq]at hj;exact .inr ⟨x,hj.symm⟩
 | unit=>intro x j q _ hj;simp[enc]at hj
 | pr a b iha ihb=>
  intro x j q hf hj;simp only[Ty.flat,Bool.and_eq_true]at hf;simp only[enc,List.getElem?_append]at hj;split at hj
  ·exact iha _ _ _ hf.1 hj
  ·exact ihb _ _ _ hf.2 hj
 | sl e a=>intro x j q hf;simp[Ty.flat]at hf
 | mp=>intro x j q hf;simp[Ty.flat]at hf
theorem scal_rep {w' :World}{g' :G}{q:C}{u:Value}(hq:CRep w g q u)(h:(∃kd z,q= .int kd z)\/(∃bv,q= .bool bv)):CRep w' g' q u:=by
 rcases h with⟨kd,z,rfl⟩ | ⟨bv,rfl⟩
 ·cases hq;exact .int _ _
 ·cases hq;exact .bool _
theorem scal_one {q:C}{u:Value}(hq:CRep w g q u)(h:(∃kd z,q= .int kd z)\/(∃bv,q= .bool bv)):u.oneCell' =true:=by
 rcases h with⟨kd,z,rfl⟩ | ⟨bv,rfl⟩
 ·cases hq;rfl
 ·cases hq;rfl
theorem appFlat_ok {r:Nat}{sv:SV}(hN:d<X.N)(h:appFlat X.P st d t r sv= .ok s)(hi:TInv X D st ρ a w g)(hw:st.wf=true)(hk:st.rok=true){ρ' :Env}(hev:evalB Γ (s.es.map (·.1)) ρ=some ρ')
 (hx:a.eval x=g.hdr (r,[])) (hy:st.val y= .ok sv\/(PRep X.P w g (sv.enc ρ) (a.eval y))):
 (⟨some d, .call { callee := .builtin .append, args := #[x, y], argTypes := #[t, t] }, ty, ps, af, gd⟩ : Oper).wp X.P a w (fun a' w' => (g.hdr (r, []) = .slice none 0 0 → RelD D w w') ∧ (w.heap.size ≤ w'.heap.size ∧ ∀ b0, b0 < w.heap.size → g.own b0 ≠ some (r, []) → w'.heap[b0]? = w.heap[b0]?) ∧ ∃ g', TInv X D s.st ρ' a' w' g' ∧ ∀ l, l ≠ (r, []) → g'.hdr l = g.hdr l) (fun _ _ _ => False) := by
 have hyr:PRep X.P w g (sv.enc ρ) (a.eval y):=by
  rcases hy with hy | hy
  ·exact val_rep hi hy
  ·exact hy
 unfold appFlat at h;split at h
 ·rename_i e e' b val nl he hr;by_cases hc:(e=e'∧b.flat=true/\(!st.fix.contains r)=true/\val.ty st.ts=some (.sl e b)/\b.n=szOf X.P e/\0<b.n/\0<bytesOf X.P e/\zeroN X.P e=some b.n)
  ·rw[if_neg (fun hh=>hh hc)]at h;obtain⟨hee,hf,hfix,hvt,hbn,h0,hby0,hz⟩:=hc;subst hee;obtain⟨ti,z,hinfo,hzero,hzs⟩:=zeroN_spec hz;have hu:=elem_under he;have hrow:=row_of hi hr;have hvg:=V.list_of (At.ty_get hi.typ hvt);generalize hxs:(val.get ρ).as (.sl e b)=xs at hrow hvg;have hisz:ti.size=szOf X.P e:=by simp[szOf,hinfo]
   have hib:ti.bytes=bytesOf X.P e:=by simp[bytesOf,hinfo]
   have hexec:∀(A:Option Addr) (m c:Nat) (v' :Value) (w' :World),a.eval y= .slice A m c->(Builtin.append_ #[t,t] ty #[g.hdr (r,[]),.slice A m c]).run X.P w= .ok v' w'→
    (execOp a.eval ⟨some d,.call { callee:= .builtin .append,args:= #[x,y],argTypes:= #[t,t] },ty,ps,af,gd⟩).run X.P w= .ok (.value v') w' :=fun A m c v' w' hye hrn=>by
    simp only[execOp,resolve,invoke,builtin,Sem.run_bind,Sem.run_pure,Result.andThen_ok,List.map_toArray,List.map_cons,List.map_nil,hx,hye,hrn]
   have hcap:∃B n c,g.hdr (r,[])= .slice B n c/\n<=c:=by
    generalize (xs.mapIdx fun i y=>encIn none r i b y)=els at hrow;cases hrow with
    | nil _ _ hd=>exact⟨_,_,_,hd,Nat.le_refl _⟩
    | zero _ A hd=>exact⟨_,_,_,hd,Nat.le_refl _⟩
    | full _ _ _ _ bb base n cap cs f hrf=>exact⟨_,_,_,hrf.hd,hrf.hcap⟩
   have hzero0:∀(A:Option Addr) (c:Nat),(Builtin.append_ #[t,t] ty #[g.hdr (r,[]),.slice A 0 c]).run X.P w= .ok (g.hdr (r,[])) w:=fun A c=>by
    obtain⟨B,n,c',h1,h2⟩:=hcap;rw[h1];exact run_append_zero hu hinfo B n c' h2 A c
   split at h
   ·simp only[Except.ok.injEq]at h;subst h;have:=evalB_nil hev;subst this;have hye:a.eval y= .slice none 0 0:=by
     have hyr:CRep w g .nil (a.eval y):=hyr;generalize a.eval y=u at hyr;cases hyr;rfl
    unfold Oper.wp;rw[hexec _ _ _ _ _ hye (hzero0 none 0)];exact⟨fun _=> .refl _ _,⟨Nat.le_refl _,fun _ _ _=>rfl⟩,g,hi.put hN (.hd _ _ rfl),fun _ _=>rfl⟩
   ·rename_i src hne;have hb:=ok_bind h
    clear h
    obtain⟨v,hl,h⟩:=hb;have hb:=ok_bind h
    clear h
    obtain⟨tv,hvty,h⟩:=hb;by_cases hc2:(tv= .sl e b/\(!srcBad r src)=true)
    ·rw[if_neg (fun hh=>hh hc2)]at h;simp only[Except.ok.injEq]at h;subst h;obtain⟨rfl,hbad⟩:=hc2;obtain⟨A,cap2,fn,hye,hcells,hreps⟩:=src_view hi hf hbn h0 hyr hl hvty;have hvg2:=V.list_of (ty_get hi hvty);generalize hys:(v.get ρ).as (.sl e b)=ys at hye hcells hreps hvg2;obtain⟨v',hv',rfl⟩:=evalB_one hev;simp only[Ex.den1,Ex.den,hvg,hvg2,V.as_self,Option.bind_eq_some_iff,Option.some.injEq]at hv';obtain⟨zs,hzs',rfl⟩:=hv';obtain⟨fit1,fit2,rfl⟩:=gapp_ok hzs';have hi2:=hi.bindOne hw (v:=⟨.sl e b,xs++ys⟩) rfl;have hval:((At.r ⟨st.nx,[]⟩).get (ρ++[⟨.sl e b,xs++ys⟩])).as (.sl e b)=xs++ys:=by
      have:(st.ref).get (ρ++[⟨.sl e b,xs++ys⟩])=⟨.sl e b,xs++ys⟩:=ref_get hi.len;have h2:(At.r ⟨st.nx,[]⟩).get (ρ++[⟨.sl e b,xs++ys⟩])=⟨.sl e b,xs++ys⟩:=this;rw[h2];exact V.as_self _ _

     have fin:∀(w' :World) (g' :G) (v' :Value),Stab (st.bind (.sl e b)).nr true r w g w' g'→GOK X g' w'→g'.hdr (r,[])=v'→RowRep X.P w' g' (r,[]) (.row false nl e ((xs++ys).mapIdx fun i y=>encIn none r i b y))->
      (∀b0 l,l.1≠r->g.own b0=some l->g'.own b0=some l/\w'.heap[b0]? =w.heap[b0]?)->(∀b0 l,g.own b0=some l->g'.own b0=some l)->(∀b0 l,l≠(r,[])->g'.own b0=some l->g.own b0=some l)->(∀l,l≠(r,[])->g'.hdr l=g.hdr l)->∃g'',TInv X D ((((st.bind (.sl e b)).kill true r).setR r (.list e b (.r ⟨st.nx,[]⟩) nl none)).put d (.c (.h r))) (ρ++[⟨.sl e b,xs++ys⟩]) (a.put (some d) v') w' g''∧∀l,l≠(r,[])->g''.hdr l=g.hdr l:=fun w' g' v' S hok hdv hrow' hown hkp hbk hhd=>by
      have hm:=hi2.mut (rok_bind hk _) S hok (.list e b (.r ⟨st.nx,[]⟩) nl none) (fun p row hp=>by
       cases p with
       | nil=>rw[rows_nil_list,hval]at hp;cases hp;exact hrow'
       | cons q p=>
        obtain⟨_,rfl,y',_,hs⟩:=rows_cons_list hp;rw[flat_noRow _ _ _ _ hf]at hs;cases hs) (by have h0:st.fix.contains r=false:=by { simpa using hfix };exact fun _=>h0) hown st.dirty ⟨fun b0 hb0=>(by obtain⟨p,q,h1,h2,h3⟩:=hi.dirt.1 b0 hb0;exact⟨p,q,h1,hkp _ _ h2,h3⟩),fun r0 b0 q hd hb0 hq=>hi.dirt.2 r0 b0 q hd (hbk _ _ (fun e0=>by cases e0;exact hq rfl) hb0) hq⟩
      exact⟨g',TInv.put hm hN (.hd _ _ hdv.symm),hhd⟩
     by_cases hm0:ys=[]
     ·subst hm0;unfold Oper.wp;rw[hexec _ _ _ _ _ hye (hzero0 A cap2)];refine⟨fun _=> .refl _ _,⟨Nat.le_refl _,fun _ _ _=>rfl⟩,fin w g _ ⟨fun _ _ _ _=>rfl,fun _ _ _ b0 hb0=>⟨hb0,rfl⟩⟩ hi.inv.ok rfl (by rw[List.append_nil];exact hrow) (fun _ _ _ h=>⟨h,rfl⟩) (fun _ _ h=>h) (fun _ _ _ h=>h) (fun _ _=>rfl)⟩
     ·obtain⟨ad,rfl,hcell⟩:=hcells hm0;have hyget:∀i,i<ys.length->(ys:List b.den)[i]? =some (ys.getD i b.dflt):=fun i hi=>by rw[List.getD,List.getElem?_eq_getElem hi];rfl
      have hone:∀i k,i<ys.length->k<szOf X.P e->(fn i k).oneCell' =true:=fun i k hi hk=>by
       have hkl:k<(enc none b (ys.getD i b.dflt)).length:=by rw[enc_length];omega
       have hq:=List.getElem?_eq_getElem hkl;exact scal_one (hreps i _ k _ (hyget i hi) hq) (flat_scal b _ k _ hf hq)
      have hels:∀(i:Nat) (y:b.den),(xs:List b.den)[i]? =some y->(xs.mapIdx fun i y=>encIn none r i b y)[i]? =some (enc none b y):=fun i y hy=>by
       rw[List.getElem?_mapIdx,hy];simp only[Option.map_some,encIn,encE_flat r i none 0 b y hf]
      have hxget:∀i,i<xs.length->(xs:List b.den)[i]? =some (xs.getD i b.dflt):=fun i hi=>by rw[List.getD,List.getElem?_eq_getElem hi];rfl

      have hold:∃(fo:Nat->Nat->Value) (bOld:Option Nat),(∀b0,bOld=some b0->g.own b0=some (r,[]))/\(g.hdr (r,[])= .slice none 0 0->bOld=none)/\
       ((xs.length=0/\(g.hdr (r,[])= .slice none 0 0\/∃a,g.hdr (r,[])= .slice (some a) 0 0))\/∃b0 base cap cs,g.hdr (r,[])= .slice (some ⟨b0,base,none⟩) xs.length cap/\bOld=some b0/\w.heap[b0]? =some (.cells cs e (0,0))/\xs.length<=cap/\cap<=maxLen/\base+cap*szOf X.P e=cs.size/\
        (∀i k,i<xs.length->k<szOf X.P e->cs[base+(i*szOf X.P e+k)]? =some (fo i k)))/\
       ∀(i:Nat) (y:b.den) (k:Nat) (q:C),(xs:List b.den)[i]? =some y->(enc none b y)[k]? =some q->CRep w g q (fo i k):=by
       generalize hl0:(xs.mapIdx fun i y=>encIn none r i b y)=els at hrow hels;have hl1:els.length=xs.length:=by rw[<-hl0];simp
       cases hrow with
       | nil _ _ hd=>exact⟨fun _ _=>undef,none,(fun _ h=>(by cases h)),fun _=>rfl,.inl ⟨hl1.symm,.inl hd⟩,(fun i y k q h=>(by have:xs=[]:=List.eq_nil_of_length_eq_zero hl1.symm;subst this;simp at h))⟩
       | zero _ A hd=>exact⟨fun _ _=>undef,none,(fun _ h=>(by cases h)),fun _=>rfl,.inl ⟨hl1.symm,.inr ⟨A,hd⟩⟩,(fun i y k q h=>(by have:xs=[]:=List.eq_nil_of_length_eq_zero hl1.symm;subst this;simp at h))⟩
       | full _ _ _ _ b0 base n cap cs f hrf=>
        have hn:=hrf.len;rw[hl1]at hn;subst hn;have hd:g.hdr (r,[])= .slice (some ⟨b0,base,none⟩) xs.length cap:=hrf.hd;refine⟨f,some b0,fun _ h=>(by cases h;exact hrf.own),fun h=>(by rw[hd]at h;cases h),.inr ⟨b0,base,cap,cs,hd,rfl,hrf.heap,hrf.hcap,hrf.hmax,hrf.fit,fun i k hi hk=> ?_⟩,fun i y k q h1 h2=>hrf.rep i _ k q (hels i y h1) h2⟩;have hg:=hels i _ (hxget i hi);exact hrf.cell i _ k _ hg (List.getElem?_eq_getElem (by rw[enc_length];omega))
      obtain⟨fo,bOld,hbo,hbn0,hv,hro⟩:=hold;obtain⟨v',w',hr',hA⟩:=run_append_own' (P:=X.P) (w:=w) (ty:=ty) hu hinfo hzero (by rw[hzs,hbn,hisz]) (by rw[hisz];omega) (g.hdr (r,[])) xs.length ys.length fo fn bOld hv ad cap2 (List.length_pos_iff.2 hm0) hcell hone (by simp only[maxLen];omega) (by rw[hib];exact fit1);unfold Oper.wp;rw[hexec _ _ _ _ _ hye hr'];obtain⟨⟨b1,base,cap,cs,rfl,hcap1,hmax,hfit,hh,hco,hcn,hbb,hkeep⟩,hos,htape,hout,hsize⟩:=hA;have hok:=hi.inv.ok;have hown1:∀l,g.own b1=some l->l=(r,[]):=fun l hl=>by
       rcases hbb with hbb | hbb
       ·have:=hbo b1 hbb.symm;rw[hl]at this;exact Option.some.inj this
       ·have:=(hok.own b1 _ hl).2.1;omega
      have hS1:¬g.S b1:=by
       rcases hbb with hbb | hbb
       ·exact(hok.own b1 _ (hbo b1 hbb.symm)).2.2
       ·intro hS;have:=(hok.S b1 hS).1;omega
      have hO1:X.O0 b1\/X.B0<=b1:=by
       rcases hbb with hbb | hbb
       ·exact(hok.own b1 _ (hbo b1 hbb.symm)).1
       ·exact .inr (Nat.le_trans hok.base hbb)
      have hlt1:b1<w'.heap.size:=(Array.getElem?_eq_some_iff.1 hh).1
      let g' :G:=⟨g.S,fun b0=>if b0=b1 then some (r,[])else g.own b0,fun l=>if l=(r,[])then .slice (some ⟨b1,base,none⟩) (xs.length+ys.length) cap else g.hdr l⟩
      have hrel:g.hdr (r,[])= .slice none 0 0->RelD D w w' :=fun hnil=>by
       have:=hbn0 hnil;subst this;refine⟨hsize,fun b0 hb0 _=>hkeep b0 hb0 ?_⟩;rcases hbb with hbb | hbb
       ·cases hbb
       ·omega
      refine⟨hrel,⟨hsize,fun b0 hb0 hne=>hkeep b0 hb0 (fun e0=> ?_)⟩,fin w' g' _ ⟨fun l h1 h2 h3=> ?_,fun rg hne _ b0 hb0=> ?_⟩ ⟨hok.chg.trans ⟨hos,htape,hout,hsize,fun k hk hO=>hkeep k (Nat.lt_of_lt_of_le hk hok.base) (fun e0=>by subst e0;rcases hO1 with h | h;exact hO h;omega)⟩,Nat.le_trans hok.base hsize,fun b0 hb0=>⟨Nat.lt_of_lt_of_le (hok.S b0 hb0).1 hsize,(hok.S b0 hb0).2⟩,fun b0 l hl=> ?_⟩ (by simp[g']) ?_ (fun b0 l hl hb0=> ?_) (fun b0 l hl=> ?_) (fun b0 l hne hl=> ?_) (fun l hne=>by simp only[g'];rw[if_neg hne])⟩
      ·subst e0;rcases hbb with hbb | hbb
       ·exact hne (hbo b0 hbb.symm)
       ·omega
      ·simp only[g'];rw[if_neg];intro e0;subst e0;rcases h1 with h1 | h1
       ·cases h1
       ·exact h1 rfl
      ·have hbne:b0≠b1:=fun e0=>by
        subst e0;cases rg with
        | none=>exact hS1 hb0
        | some r' =>
         rcases hb0 with hb0 | ⟨q,hb0⟩
         ·exact hS1 hb0
         ·have:=hown1 _ hb0;cases this;exact hne rfl
       have hlt0:b0<w.heap.size:=by
        cases rg with
        | none=>exact(hok.S b0 hb0).1
        | some r' =>
         rcases hb0 with hb0 | ⟨q,hb0⟩
         ·exact(hok.S b0 hb0).1
         ·exact(hok.own b0 _ hb0).2.1
       refine⟨?_,hkeep b0 hlt0 hbne⟩;cases rg with
       | none=>exact hb0
       | some r' =>
        rcases hb0 with hb0 | ⟨q,hb0⟩
        ·exact .inl hb0
        ·exact .inr ⟨q,by simp only[g'];rw[if_neg hbne];exact hb0⟩
      ·simp only[g']at hl;split at hl
       ·rename_i e0;subst e0;exact⟨hO1,hlt1,hS1⟩
       ·obtain⟨h1,h2,h3⟩:=hok.own b0 l hl;exact⟨h1,Nat.lt_of_lt_of_le h2 hsize,h3⟩
      ·have hl2:((xs++ys).mapIdx fun i y=>encIn none r i b y).length=xs.length+ys.length:=by simp
       have hget:∀(i:Nat) (c:List C),((xs++ys).mapIdx fun i y=>encIn none r i b y)[i]? =some c->∃y,c=enc none b y/\((i<xs.length/\(xs:List b.den)[i]? =some y)\/(xs.length<=i/\i - xs.length<ys.length/\(ys:List b.den)[i - xs.length]? =some y)):=fun i c hc=>by
        rw[List.getElem?_mapIdx,Option.map_eq_some_iff]at hc;obtain⟨y,hy,rfl⟩:=hc;refine⟨y,by simp only[encIn];exact encE_flat r i none 0 b y hf,?_⟩;rcases Nat.lt_or_ge i xs.length with hlt | hge
        ·rw[List.getElem?_append_left hlt]at hy;exact .inl ⟨hlt,hy⟩
        ·rw[List.getElem?_append_right hge]at hy;exact .inr ⟨hge,(List.getElem?_eq_some_iff.1 hy).1,hy⟩
       refine .full _ _ _ _ b1 base (xs.length+ys.length) cap cs (fun i k=>if i<xs.length then fo i k else fn (i - xs.length) k) ⟨by simp[g',hdrOf],by simp[g'],hh,hl2.symm,hcap1,hmax,hfit,by omega,fun i c hc=> ?_,fun i c k q h1 h2=> ?_,fun i c k q h1 h2=> ?_,fun _ e0=> ?_⟩
       ·obtain⟨y,rfl,_⟩:=hget i c hc;rw[enc_length];exact hbn
       ·obtain⟨y,rfl,hin⟩:=hget i c h1;have hkk:k<szOf X.P e:=by rw[<-hbn,<-enc_length none b y];exact(List.getElem?_eq_some_iff.1 h2).1
        rcases hin with⟨hlt,_⟩ | ⟨hge,hlt,_⟩
        ·rw[if_pos hlt];exact hco i k hlt hkk
        ·rw[if_neg (by omega)];have:=hcn (i - xs.length) k hlt hkk
         rwa [show xs.length+(i - xs.length)=i from by omega]at this
       ·obtain⟨y,rfl,hin⟩:=hget i c h1;have hsc:=flat_scal b y k q hf h2;rcases hin with⟨hlt,hy⟩ | ⟨hge,hlt,hy⟩
        ·rw[if_pos hlt];exact scal_rep (hro i y k q hy h2) hsc
        ·rw[if_neg (by omega)];exact scal_rep (hreps _ y k q hy h2) hsc
       ·rw[e0]at hl2;have:=List.length_pos_iff.2 hm0;simp at hl2;omega
      ·have hbne:b0≠b1:=fun e0=>by subst e0;have:=hown1 _ hb0;subst this;exact hl rfl
       exact⟨by simp only[g'];rw[if_neg hbne];exact hb0,hkeep b0 (hok.own b0 _ hb0).2.1 hbne⟩
      ·simp only[g'];by_cases e0:b0=b1
       ·subst e0;rw[if_pos rfl,hown1 _ hl]
       ·rw[if_neg e0];exact hl
      ·simp only[g']at hl;split at hl
       ·simp only[Option.some.injEq]at hl;exact absurd hl.symm hne
       ·exact hl
    ·rw[if_pos hc2]at h;cases h
   ·cases h
  ·rw[if_pos hc]at h;cases h
 ·cases h
end
end Go.Pu
/-
  Own work. Append, from the operation: a nil destination is taken for a new owned list first.
-/
namespace Go.Pu
open Go Go.RowKit
set_option linter.unusedVariables false
section
variable {X:Ctx} {D:Nat->Prop} {Γ:List FE} {st:St} {ρ:Env} {a:Act} {w:World} {g:G}
theorem adopt_rk (st:St)(k:RK)(r:Nat):(st.push k).rk r=if r=st.nr then k else st.rk r:=by
 unfold St.push St.rk St.nr;simp only[List.getD];split
 ·rename_i e;rw[e];simp
 ·rename_i e;rcases Nat.lt_or_ge r st.roots.length with h' | h'
  ·rw[List.getElem?_append_left h']
  ·rw[List.getElem?_append_right h',List.getElem?_eq_none (by simp;omega),List.getElem?_eq_none h']
theorem TInv.adoptNew {e:TypeId}{b:Ty}{nl:Bool}(h:TInv X D st ρ a w g)(hw:st.rok=true):
 ∃g',TInv X D (st.push (.list e b (.nil (.sl e b)) nl none)) ρ a w g'∧g'.hdr (st.nr,[])= .slice none 0 0/\(∀l,l.1≠st.nr->g'.hdr l=g.hdr l)/\g'.S=g.S/\g'.own=g.own:=by
 unfold St.rok at hw;simp only[Bool.and_eq_true,List.all_eq_true,Nat.blt_eq]at hw;obtain⟨hw,hfix⟩:=hw
 let g' :G:={ S:=g.S,own:=g.own,hdr:=fun l=>if l.1=st.nr then .slice none 0 0 else g.hdr l }
 have hok:=h.inv.ok;have hh:∀l,plOf (fun r=>Nat.blt r st.nr) l->g'.hdr l=g.hdr l:=fun l hl=>by
  simp only[plOf,Nat.blt_eq]at hl;simp only[g'];rw[if_neg (by omega)]
 refine⟨g',⟨h.typ,h.inv.next (plOf fun r=>Nat.blt r st.nr) (prOf fun r=>Nat.blt r st.nr) hh (fun rg _ b hb=>⟨hb,rfl⟩) ⟨hok.chg,hok.base,hok.S,hok.own⟩ rfl rfl (fun s=> ?_) (fun l row hl=> ?_),fun r hr0=> ?_,h.dirt⟩,by simp[g'],fun l hl=>by simp[g',hl],rfl,rfl⟩
 ·right;left
  refine⟨rfl,rfl,?_⟩;unfold St.okR at hw;simp only[Bool.and_eq_true]at hw;exact SV.okR_ok _ (all_slot hw.1 rfl s)
 ·have hl:RK.rows ρ l.1 ((st.push (.list e b (.nil (.sl e b)) nl none)).rk l.1) l.2=some row:=hl;rw[adopt_rk]at hl;split at hl
  ·rename_i e0
   right
   obtain⟨l1,l2⟩:=l;simp only at e0;subst e0;cases l2 with
   | nil=>
    rw[rows_nil_list]at hl;cases hl;have:(At.get ρ (.nil (.sl e b))).as (.sl e b)=[]:=by { show V.as (.sl e b) ⟨.sl e b,[]⟩=[];exact V.as_self _ _ }
    rw[this];exact .nil _ _ (by simp[g'])
   | cons q p=>
    obtain⟨_,rfl,y',hy,hs⟩:=rows_cons_list hl;have:(At.get ρ (.nil (.sl e b))).as (.sl e b)=[]:=by { show V.as (.sl e b) ⟨.sl e b,[]⟩=[];exact V.as_self _ _ }
    rw[this]at hy;simp at hy
  ·rename_i e0
   left
   have hlt:l.1<st.nr:=rk_lt (fun e0=>by rw[e0,rows_dead]at hl;cases hl);unfold St.okR at hw;simp only[Bool.and_eq_true]at hw;exact⟨hl,by simp[plOf];exact hlt,RK.okR_ok (st.rk l.1) (all_rk hw.2 rfl l.1) (fun p _=>by simp[plOf];exact hlt) (fun _ h=>h) l.2 row hl,fun b hb=>⟨hb,rfl⟩⟩
 ·rw[hh (r,[]) (by simp[plOf];exact hfix r hr0)];exact h.fixd r hr0
theorem TInv.adoptTok {v:Value}(h:TInv X D st ρ a w g)(hw:st.rok=true):
 ∃g',TInv X D (st.push .dead) ρ a w g'∧g'.hdr (st.nr,[])=v/\(∀l,l.1≠st.nr->g'.hdr l=g.hdr l)/\g'.S=g.S/\g'.own=g.own:=by
 unfold St.rok at hw;simp only[Bool.and_eq_true,List.all_eq_true,Nat.blt_eq]at hw;obtain⟨hw,hfix⟩:=hw
 let g' :G:={ S:=g.S,own:=g.own,hdr:=fun l=>if l.1=st.nr then v else g.hdr l }
 have hok:=h.inv.ok;have hh:∀l,plOf (fun r=>Nat.blt r st.nr) l->g'.hdr l=g.hdr l:=fun l hl=>by
  simp only[plOf,Nat.blt_eq]at hl;simp only[g'];rw[if_neg (by omega)]
 refine⟨g',⟨h.typ,h.inv.next (plOf fun r=>Nat.blt r st.nr) (prOf fun r=>Nat.blt r st.nr) hh (fun rg _ b hb=>⟨hb,rfl⟩) ⟨hok.chg,hok.base,hok.S,hok.own⟩ rfl rfl (fun s=> ?_) (fun l row hl=> ?_),fun r hr0=> ?_,h.dirt⟩,by simp[g'],fun l hl=>by simp[g',hl],rfl,rfl⟩
 ·right;left
  refine⟨rfl,rfl,?_⟩;unfold St.okR at hw;simp only[Bool.and_eq_true]at hw;exact SV.okR_ok _ (all_slot hw.1 rfl s)
 ·have hl:RK.rows ρ l.1 ((st.push .dead).rk l.1) l.2=some row:=hl;rw[adopt_rk]at hl;split at hl
  ·rw[rows_dead]at hl;cases hl
  ·rename_i e0
   left
   have hlt:l.1<st.nr:=rk_lt (fun e0=>by rw[e0,rows_dead]at hl;cases hl);unfold St.okR at hw;simp only[Bool.and_eq_true]at hw;exact⟨hl,by simp[plOf];exact hlt,RK.okR_ok (st.rk l.1) (all_rk hw.2 rfl l.1) (fun p _=>by simp[plOf];exact hlt) (fun _ h=>h) l.2 row hl,fun b hb=>⟨hb,rfl⟩⟩
 ·rw[hh (r,[]) (by simp[plOf];exact hfix r hr0)];exact h.fixd r hr0
variable {d:Nat} {x y:Operand} {t t' ty:TypeId} {ps:String} {af:Array Edge} {gd:Option (Nat×Bool)} {s:Step} {nr:Bool}
theorem append_ok (hN:d<X.N){sx sy:SV}(hsx:st.val x= .ok sx)(hsy:st.val y= .ok sy)(h:stepAppend X.P st d t sx sy= .ok s)(hnr:nr=true->sx.isNil=true):
 WStep X D Γ nr st ⟨some d,.call { callee:= .builtin .append,args:= #[x,y],argTypes:= #[t,t] },ty,ps,af,gd⟩ s:=by
 intro ρ ρ' a w g hi hw hk hev;have hxr:=val_rep hi hsx;unfold stepAppend at h;split at h
 ·split at h
  ·split at h
   ·rename_i e he _ b hb;by_cases hc:((adoptNew st e b).wf && (adoptNew st e b).rok)=true
    ·rw[if_neg (fun hh=>by rw[hc]at hh;cases hh)]at h;simp only[Bool.and_eq_true]at hc;obtain⟨g',hi',q1,_⟩:=hi.adoptNew (e:=e) (b:=b) (nl:=true) hk;have hx:a.eval x= .slice none 0 0:=by
      have hxr:CRep w g .nil (a.eval x):=by simpa[SV.enc,SC.enc,PRep]using hxr
      generalize a.eval x=u at hxr;cases hxr;rfl
     refine Oper.wp_mono (fun a' w' q=>⟨fun _=>q.1 q1,q.2.2.imp fun _ h=>h.1⟩) (appFlat_ok (st:=adoptNew st e b) hN h hi' hc.1 hc.2 hev (hx.trans q1.symm) (.inl hsy))
    ·rw[if_pos (by rw[Bool.eq_false_iff.2 hc];rfl)]at h;cases h
   ·cases h
  ·cases h
 ·rename_i r;have hx:a.eval x=g.hdr (r,[]):=by
   have hxr:CRep w g (.hd (r,[])) (a.eval x):=by simpa[SV.enc,SC.enc,PRep]using hxr
   generalize a.eval x=u at hxr;cases hxr;rename_i hv;exact hv
  refine Oper.wp_mono (fun a' w' q=>⟨fun hn=> ?_,q.2.2.imp fun _ h=>h.1⟩) (appFlat_ok hN h hi hw hk hev hx (.inl hsy));have:=hnr hn;simp[SV.isNil]at this
 ·cases h
end
end Go.Pu
/-
  Own work. Relabelling: cells that speak of other places and regions, and stand for the same value.
-/
namespace Go.Pu
open Go Go.RowKit
set_option linter.unusedVariables false
inductive C.Rel (ml:Loc->Loc->Prop)(mr:Rg->Rg->Prop):C->C->Prop
 | int (k:IntKind) (z:Int):C.Rel ml mr (.int k z) (.int k z)
 | bool (b:Bool):C.Rel ml mr (.bool b) (.bool b)
 | nil:C.Rel ml mr .nil .nil
 | gone (x:C):C.Rel ml mr x .gone
 | ro (rg rg' :Rg) (els els' :List (List C)) (hl:els'.length=els.length) (hr:els≠[]->mr rg rg')
  (h0:∀(i:Nat) (cs cs' :List C),els[i]? =some cs->els'[i]? =some cs'→cs'.length=cs.length)
  (h:∀(i:Nat) (cs cs' :List C) (k:Nat) (x x' :C),els[i]? =some cs->els'[i]? =some cs'→cs[k]? =some x->cs'[k]? =some x'→C.Rel ml mr x x'):C.Rel ml mr (.ro rg els) (.ro rg' els')
 | rp (rg rg' :Rg) (cells cells' :List C) (hr:mr rg rg') (hl:cells'.length<=cells.length)
  (h:∀(k:Nat) (x x' :C),cells[k]? =some x->cells'[k]? =some x'→C.Rel ml mr x x'):C.Rel ml mr (.rp rg cells) (.rp rg' cells')
 | hd (l l' :Loc) (h:ml l l'):C.Rel ml mr (.hd l) (.hd l')
 | fn (f:FuncId) (caps caps' :List C) (hl:caps'.length=caps.length) (h:∀(k:Nat) (x x' :C),caps[k]? =some x->caps'[k]? =some x'→C.Rel ml mr x x'):C.Rel ml mr (.fn f caps) (.fn f caps')
 | sub (l l' :Loc) (s lo n:Nat) (h:ml l l'):C.Rel ml mr (.sub l s lo n) (.sub l' s lo n)
 | both (x y x' y' :C) (hx:C.Rel ml mr x x') (hy:C.Rel ml mr y y'):C.Rel ml mr (.both x y) (.both x' y')
theorem get_other {α:Type}{l l' :List α}{i:Nat}{y:α}(hl:l'.length<=l.length)(h:l'[i]? =some y):∃x,l[i]? =some x:=by
 have:=(List.getElem?_eq_some_iff.1 h).1;exact⟨_,List.getElem?_eq_getElem (by omega)⟩
theorem CRep.rel {w w' :World}{g g' :G}{ml:Loc->Loc->Prop}{mr:Rg->Rg->Prop}{x:C}{v:Value}(h:CRep w g x v)(hl:∀l l',ml l l'→g'.hdr l' =g.hdr l)
 (hr:∀rg rg',mr rg rg'→∀b,g.reg rg b->g'.reg rg' b/\w'.heap[b]? =w.heap[b]?):∀{x'},C.Rel ml mr x x'→CRep w' g' x' v:=by
 induction h with
 | int k z=>intro x' h;cases h<;>first | exact .int k z | exact .gone _
 | bool b=>intro x' h;cases h<;>first | exact .bool b | exact .gone _
 | nil=>intro x' h;cases h<;>first | exact .nil | exact .gone _
 | gone v=>intro x' h;cases h;exact .gone v
 | ro0 rg a cap=>
  intro x' h;cases h with
  | gone=>exact .gone _
  | ro _ rg' _ els' hl2 _ _ _=>
   have:els' =[]:=List.eq_nil_of_length_eq_zero hl2;subst this;exact .ro0 _ _ _
 | ro rg els b off n cap s f hn hc hm hS hs hsz hcell hrep ih=>
  intro x' h;cases h with
  | gone=>exact .gone _
  | ro _ rg' _ els' hl2 h1 h0 h2=>
   by_cases he:els=[]
   ·subst he;subst hn
    have:els' =[]:=List.eq_nil_of_length_eq_zero hl2;subst this;exact .ro0 _ _ _
   ·have hb:=hr rg rg' (h1 he) b hS;refine .ro rg' els' b off n cap s f (by omega) hc hm hb.1 hs (fun i cs' q1=> ?_) (fun i cs' k x' q1 q2=> ?_) (fun i cs' k x' q1 q2=> ?_)
    ·obtain⟨cs,hcs⟩:=get_other (l:=els) (by omega) q1;rw[h0 i cs cs' hcs q1];exact hsz i cs hcs
    ·obtain⟨cs,hcs⟩:=get_other (l:=els) (by omega) q1;obtain⟨x,hx⟩:=get_other (l:=cs) (by rw[h0 i cs cs' hcs q1];exact Nat.le_refl _) q2;rw[World.cell?_of_block (w:=w) hb.2];exact hcell i cs k x hcs hx
    ·obtain⟨cs,hcs⟩:=get_other (l:=els) (by omega) q1;obtain⟨x,hx⟩:=get_other (l:=cs) (by rw[h0 i cs cs' hcs q1];exact Nat.le_refl _) q2;exact ih i cs k x hcs hx (h2 i cs cs' k x x' hcs q1 hx q2)
 | rp rg cells b off f hS hcell hrep ih=>
  intro x' h;cases h with
  | gone=>exact .gone _
  | rp _ rg' _ cells' h1 hl2 h2=>
   have hb:=hr rg rg' h1 b hS;refine .rp rg' cells' b off f hb.1 (fun k x' q=> ?_) (fun k x' q=> ?_)
   ·obtain⟨x,hx⟩:=get_other (l:=cells) hl2 q;rw[World.cell?_of_block (w:=w) hb.2];exact hcell k x hx
   ·obtain⟨x,hx⟩:=get_other (l:=cells) hl2 q;exact ih k x hx (h2 k x x' hx q)
 | hd l v hv=>
  intro x' h;cases h with
  | gone=>exact .gone _
  | hd _ l' h1=>exact .hd l' v (hv.trans (hl l l' h1).symm)
 | fn f caps vs hs hrep ih=>
  intro x' h;cases h with
  | gone=>exact .gone _
  | fn _ _ caps' hl2 h1=>
   refine .fn f caps' vs (by omega) (fun k x' q=> ?_);obtain⟨x,hx⟩:=get_other (l:=caps) (by omega) q;exact ih k x hx (h1 k x x' hx q)
 | sub l s lo n v hv=>
  intro x' h;cases h with
  | gone=>exact .gone _
  | sub _ l' _ _ _ h1=>exact .sub l' s lo n v (by rw[hl l l' h1];exact hv)
 | both x y v _ _ ih1 ih2=>
  intro x' h;cases h with
  | gone=>exact .gone _
  | both _ _ _ _ h1 h2=>exact .both _ _ v (ih1 h1) (ih2 h2)
inductive Row.Rel (ml:Loc->Loc->Prop)(mr:Rg->Rg->Prop):Row->Row->Prop
 | row (bx nl nl' :Bool) (e:TypeId) (els els' :List (List C)) (hn:nl' =true->nl=true) (hl:els'.length=els.length)
  (h0:∀(i:Nat) (cs cs' :List C),els[i]? =some cs->els'[i]? =some cs'→cs'.length=cs.length)
  (h:∀(i:Nat) (cs cs' :List C) (k:Nat) (x x' :C),els[i]? =some cs->els'[i]? =some cs'→cs[k]? =some x->cs'[k]? =some x'→C.Rel ml mr x x'):Row.Rel ml mr (.row bx nl e els) (.row bx nl' e els')
 | mp (kvs:List (Int×Bool)):Row.Rel ml mr (.mp kvs) (.mp kvs)
theorem RowRep.rel {P:Program}{w w' :World}{g g' :G}{ml:Loc->Loc->Prop}{mr:Rg->Rg->Prop}{l l' :Loc}{row row' :Row}(h:RowRep P w g l row)(hl:∀l l',ml l l'→g'.hdr l' =g.hdr l)
 (hr:∀rg rg',mr rg rg'→∀b,g.reg rg b->g'.reg rg' b/\w'.heap[b]? =w.heap[b]?) (h0:g'.hdr l' =g.hdr l) (hb:∀b,g.own b=some l->g'.own b=some l'∧w'.heap[b]? =w.heap[b]?)
 (hx:Row.Rel ml mr row row'):RowRep P w' g' l' row' :=by
 cases hx with
 | mp kvs=>
  cases h with
  | mp _ b clk es hd own heap hes=>exact .mp kvs b clk es (h0.trans hd) (hb b own).1 ((hb b own).2.trans heap) hes
 | row bx nl nl' e els els' hn hl2 hz hx=>
  cases h with
  | nil _ _ hd=>
   have:els' =[]:=List.eq_nil_of_length_eq_zero hl2;subst this;exact .nil _ _ (h0.trans hd)
  | zero _ a hd=>
   have:els' =[]:=List.eq_nil_of_length_eq_zero hl2;subst this;cases nl' with
   | false=>exact .zero _ a (h0.trans hd)
   | true=>cases hn rfl
  | full _ _ _ _ b base n cap cs f h=>
   have get:∀(i:Nat) (c' :List C),els'[i]? =some c'→∃c,els[i]? =some c:=fun i c' q=>get_other (by omega) q
   have cell:∀(i:Nat) (c' :List C) (k:Nat) (x' :C),els'[i]? =some c'→c'[k]? =some x'→∃c x,els[i]? =some c/\c[k]? =some x/\C.Rel ml mr x x' :=fun i c' k x' q1 q2=>by
    obtain⟨c,hc⟩:=get i c' q1;obtain⟨x,hx'⟩:=get_other (l:=c) (by rw[hz i c c' hc q1];exact Nat.le_refl _) q2;exact⟨c,x,hc,hx',hx i c c' k x x' hc q1 hx' q2⟩
   refine .full _ _ _ _ b base n cap cs f ⟨h0.trans h.hd,(hb b h.own).1,(hb b h.own).2.trans h.heap,by rw[hl2];exact h.len,h.hcap,h.hmax,h.fit,h.pos,fun i c' q=> ?_,fun i c' k x' q1 q2=> ?_,fun i c' k x' q1 q2=> ?_,fun e0=> ?_⟩
   ·obtain⟨c,hc⟩:=get i c' q;rw[hz i c c' hc q];exact h.size i c hc
   ·obtain⟨c,x,q3,q4,_⟩:=cell i c' k x' q1 q2;exact h.cell i c k x q3 q4
   ·obtain⟨c,x,q3,q4,q5⟩:=cell i c' k x' q1 q2;exact(h.rep i c k x q3 q4).rel hl hr q5
   ·intro e1;subst e1;exact h.nonil (hn e0) (List.eq_nil_of_length_eq_zero hl2.symm)
theorem enc_rel {ml:Loc->Loc->Prop}{mr:Rg->Rg->Prop}{rg rg' :Rg}:∀(t:Ty) (hr:t.flat=true\/mr rg rg') (x:t.den) (k:Nat) (q q' :C),(enc rg t x)[k]? =some q->(enc rg' t x)[k]? =some q'→C.Rel ml mr q q' :=by
 intro t
 induction t with
 | int kd=>intro hr x k q q' h h';simp only[enc]at h h';rw[h]at h';cases h';cases k with
  | zero=>cases h;exact .int _ _
  | succ k=>simp at h
 | bool=>intro hr x k q q' h h';simp only[enc]at h h';rw[h]at h';cases h';cases k with
  | zero=>cases h;exact .bool _
  | succ k=>simp at h
 | unit=>intro hr x k q q' h;simp[enc]at h
 | mp=>intro hr x k q q' h h';simp only[enc]at h';cases k with
  | zero=>cases h';exact .gone _
  | succ k=>simp at h'
 | pr a b iha ihb=>
  intro hr x k q q' h h';simp only[enc,List.getElem?_append,enc_length]at h h';have ha:a.flat=true\/mr rg rg' :=hr.imp (fun h=>by simp only[Ty.flat,Bool.and_eq_true]at h;exact h.1) id;have hb:b.flat=true\/mr rg rg' :=hr.imp (fun h=>by simp only[Ty.flat,Bool.and_eq_true]at h;exact h.2) id;split at h
  ·rename_i hk;rw[if_pos hk]at h';exact iha ha _ _ _ _ h h'
  ·rename_i hk;rw[if_neg hk]at h';exact ihb hb _ _ _ _ h h'
 | sl e a iha=>
  intro hr x k q q' h h';simp only[enc]at h h';have hr:mr rg rg' :=hr.resolve_left (by simp[Ty.flat]);cases k with
  | succ k=>simp at h
  | zero=>
   cases h;cases h'
   refine .ro _ _ _ _ (by simp) (fun _=>hr) (fun i cs cs' q1 q2=> ?_) (fun i cs cs' k y y' q1 q2 q3 q4=> ?_)
   ·rw[List.getElem?_map,Option.map_eq_some_iff]at q1 q2;obtain⟨z,hz,rfl⟩:=q1;obtain⟨z',hz',rfl⟩:=q2;rw[enc_length,enc_length]
   ·rw[List.getElem?_map,Option.map_eq_some_iff]at q1 q2;obtain⟨z,hz,rfl⟩:=q1;obtain⟨z',hz',rfl⟩:=q2;rw[hz]at hz';cases hz'
    exact iha (.inr hr) _ _ _ _ q3 q4
theorem encE_rel {ml:Loc->Loc->Prop}{mr:Rg->Rg->Prop}{r r' i:Nat}(hl:∀k,ml (r,[(i,k)]) (r',[(i,k)])):∀(t:Ty) (k0:Nat) (x:t.den) (k:Nat) (q q' :C),(encE r i k0 t x)[k]? =some q->(encE r' i k0 t x)[k]? =some q'→C.Rel ml mr q q' :=by
 intro t
 induction t with
 | int kd=>intro k0 x k q q' h h';simp only[encE]at h h';rw[h]at h';cases h';cases k with
  | zero=>cases h;exact .int _ _
  | succ k=>simp at h
 | bool=>intro k0 x k q q' h h';simp only[encE]at h h';rw[h]at h';cases h';cases k with
  | zero=>cases h;exact .bool _
  | succ k=>simp at h
 | unit=>intro k0 x k q q' h;simp[encE]at h
 | mp=>intro k0 x k q q' h h';simp only[encE]at h';cases k with
  | zero=>cases h';exact .gone _
  | succ k=>simp at h'
 | pr a b iha ihb=>
  intro k0 x k q q' h h';simp only[encE,List.getElem?_append,encE_length]at h h';split at h
  ·rename_i hk;rw[if_pos hk]at h';exact iha _ _ _ _ _ h h'
  ·rename_i hk;rw[if_neg hk]at h';exact ihb _ _ _ _ _ h h'
 | sl e a iha=>
  intro k0 x k q q' h h';simp only[encE]at h h';cases k with
  | succ k=>simp at h
  | zero=>cases h;cases h';exact .hd _ _ (hl k0)
theorem subRow_rel {ml:Loc->Loc->Prop}{mr:Rg->Rg->Prop}:∀(t:Ty) (hn:t.flat1=true\/mr none none) (k0:Nat) (x:t.den) (j:Nat) (row:Row),subRow k0 t x j=some row->Row.Rel ml mr row row:=by
 intro t
 induction t with
 | pr a b iha ihb=>
  intro hn k0 x j row h;simp only[subRow]at h;cases hb:Nat.blt j (k0+a.n)with
  | true=>rw[hb]at h;exact iha (hn.imp (fun h=>by simp only[Ty.flat1,Bool.and_eq_true]at h;exact h.1) id) _ _ _ _ h
  | false=>rw[hb]at h;exact ihb (hn.imp (fun h=>by simp only[Ty.flat1,Bool.and_eq_true]at h;exact h.2) id) _ _ _ _ h
 | sl e a iha=>
  intro hn k0 x j row h;simp only[subRow]at h;cases hb:Nat.beq j k0 with
  | false=>rw[hb]at h;cases h
  | true=>
   rw[hb]at h;cases h;refine .row _ _ _ _ _ _ (fun h=>h) rfl (fun i cs cs' q1 q2=>(by rw[q1]at q2;cases q2;rfl)) (fun i cs cs' k y y' q1 q2 q3 q4=> ?_);rw[q1]at q2;cases q2
   rw[List.getElem?_map,Option.map_eq_some_iff]at q1;obtain⟨z,hz,rfl⟩:=q1;exact enc_rel a (hn.imp (fun h=>by simpa only[Ty.flat1]using h) id) z k y y' q3 q4
 | _=>intro hn k0 x j row h;simp[subRow]at h
theorem list_rel {ml:Loc->Loc->Prop}{mr:Rg->Rg->Prop}{r r' :Nat}{e:TypeId}{a:Ty}{x x' :At}{ρ ρ' :Env}{nl nl' :Bool}(hv:(x'.get ρ').as (.sl e a)=(x.get ρ).as (.sl e a))(hnl:nl' =true->nl=true)(hl:∀p,p≠[]->ml (r,p) (r',p))(hn:a.flat1=true\/mr none none){p:List (Nat×Nat)}{row' :Row}
 (h : (RK.list e a x' nl' none).rows ρ' r' p = some row') : ∃ row, (RK.list e a x nl none).rows ρ r p = some row ∧ Row.Rel ml mr row row' := by
 cases p with
 | nil=>
  rw[rows_nil_list,hv]at h;cases h;refine⟨_,rows_nil_list ..,.row _ _ _ _ _ _ hnl (by simp) (fun i cs cs' q1 q2=> ?_) (fun i cs cs' k y y' q1 q2 q3 q4=> ?_)⟩
  ·rw[List.getElem?_mapIdx,Option.map_eq_some_iff]at q1 q2;obtain⟨z,hz,rfl⟩:=q1;obtain⟨z',hz',rfl⟩:=q2;simp only[encIn,encE_length]
  ·rw[List.getElem?_mapIdx,Option.map_eq_some_iff]at q1 q2;obtain⟨z,hz,rfl⟩:=q1;obtain⟨z',hz',rfl⟩:=q2;rw[hz]at hz';cases hz'
   exact encE_rel (fun k=>hl _ (by simp)) a 0 z k y y' q3 q4
 | cons q p=>
  obtain⟨_,rfl,y,hy,hs⟩:=rows_cons_list h;rw[hv]at hy;refine⟨row',?_,subRow_rel _ hn _ _ _ _ hs⟩;have hy' :((x.get ρ).as (.sl e a):List a.den)[q.1]? =some y:=hy;simp only[RK.rows];rw[hy'];exact hs
end Go.Pu
/-
  Own work. Slice literals of flat elements.
-/
namespace Go.Pu
open Go Go.RowKit
set_option linter.unusedVariables false
theorem fill_all (sz:Nat):∀(parts:List Value) (k:Nat) (cs:Array Value),(∀v∈parts,v.cells.size=sz)->(k+parts.length)*sz<=cs.size->
 ∃cs',Instr.fill (fun i=>some (i*sz,sz)) cs ((parts.zipIdx k).map fun(v,i)=>(i,v))=some cs'∧cs'.size=cs.size/\(∀m,m<k*sz->cs'[m]? =cs[m]?)/\
  ∀(i:Nat) (v:Value),parts[i]? =some v->∀j,j<sz->cs'[(k+i)*sz+j]? =v.cells[j]? :=by
 intro parts
 induction parts with
 | nil=>intro k cs _ _;exact⟨cs,rfl,rfl,fun _ _=>rfl,fun i v h=>by simp at h⟩
 | cons v parts ih=>
  intro k cs hsz hl;have hv:=hsz v (by simp);have hk1:(k+1)*sz<=cs.size:=Nat.le_trans (Nat.mul_le_mul_right _ (by simp)) hl;rw[Nat.add_mul,Nat.one_mul]at hk1
  let cs1:=v.cells.zipIdx.foldl (fun cs (c,j)=>cs.setIfInBounds (k*sz+j) c) cs
  have hcs1:cs1=(v.cells.toList.zipIdx 0).foldl (fun cs (c,j)=>cs.setIfInBounds (k*sz+j) c) cs:=by
   simp only[cs1];rw[<-Array.foldl_toList,Array.toList_zipIdx]
  have hf:=fun m=>fill_one cs (k*sz) v.cells.toList 0 m (by simp;omega)
  rw[<-hcs1]at hf;obtain⟨cs',h1,h2,h3,h4⟩:=ih (k+1) cs1 (fun u hu=>hsz u (by simp[hu])) (by
   rw[(hf 0).1];have:k+1+parts.length=k+(v::parts).length:=by simp;omega
   rw[this];exact hl)
  refine⟨cs',?_,by rw[h2,(hf 0).1],fun m hm=> ?_,fun i u hu j hj=> ?_⟩
  ·simp only[List.zipIdx_cons,List.map_cons,Instr.fill];rw[if_neg (by simp[hv];omega)];exact h1
  ·rw[h3 m (by rw[Nat.add_mul];omega),(hf m).2,if_neg (by omega)]
  ·cases i with
   | zero=>
    simp at hu;subst hu
    rw[Nat.add_zero,h3 _ (by rw[Nat.add_mul];omega),(hf _).2,if_pos (by simp;omega)];have:k*sz+j - (k*sz+0)=j:=by omega
    rw[this,Array.getElem?_toList]
   | succ i=>
    have:=h4 i u (by simpa using hu) j hj
    rwa [show k+1+i=k+(i+1)from by omega]at this
theorem parts_zip (ρ:Operand->Value):∀(l:List (Nat×Operand)) (k:Nat),inOrder k l=true->l.map (fun(i,x)=>(i,ρ x))=((l.map fun p=>ρ p.2).zipIdx k).map fun(v,i)=>(i,v)
 | [],_,_=>rfl
 | (i,x)::l,k,h=>by
  simp only[inOrder,Bool.and_eq_true]at h;have hi:=Nat.eq_of_beq_eq_true h.1;subst hi;simp only[List.map_cons,List.zipIdx_cons];rw[parts_zip ρ l (i+1) h.2]
section
variable {X:Ctx} {D:Nat->Prop} {Γ:List FE} {st:St} {ρ:Env} {a:Act} {w:World} {g:G}
variable {d:Nat} {x y:Operand} {t t' ty:TypeId} {ps:String} {af:Array Edge} {gd:Option (Nat×Bool)} {s:Step} {nr:Bool}
theorem parts_ok (hi:TInv X D st ρ a w g){b:Ty}(hf:b.flat=true):∀(os:List Operand) (ys:List (List At)),parts st b os= .ok ys->ys.length=os.length/\
 ∀(i:Nat) (c:List At) (o:Operand),ys[i]? =some c->os[i]? =some o->(a.eval o).cells.size=b.n/\(∀x∈c,x.lt st.ts.length=true)/\∀(k:Nat) (q:C),(enc none b (mkv b (c.map (At.get ρ))).1)[k]? =some q->∃u,(a.eval o).cells[k]? =some u/\CRep w g q u/\u.oneCell' =true
 | [],ys,h=>by
  simp only[parts,Except.ok.injEq]at h;subst h;exact⟨rfl,fun i c o h=>by simp at h⟩
 | o::os,ys,h=>by
  simp only[parts]at h;obtain⟨v,hv,h⟩:=ok_bind h;obtain⟨cs,hcs,h⟩:=ok_bind h;obtain⟨⟨xs,rs⟩,hx,h⟩:=ok_bind h;obtain⟨ys',hys,h⟩:=ok_bind h;simp only[Except.ok.injEq]at h;subst h;obtain⟨h1,h2⟩:=parts_ok hi hf os ys' hys;obtain⟨q1,q2⟩:=cells_rep hi hv hcs;obtain⟨_,e2,e3,e4⟩:=take_enc hi hf hx none;refine⟨by simp[h1],fun i c o' hc ho=> ?_⟩;cases i with
  | zero=>
   simp only[List.getElem?_cons_zero,Option.some.injEq]at hc ho;subst hc ho;exact⟨by omega,e3,fun k q hq=>q2 k q (by rw[<-e4];exact hq)⟩
  | succ i=>exact h2 i c o' (by simpa using hc) (by simpa using ho)
theorem buildSlice_ok {m:Nat}{parts:Array (Nat×Operand)}(hN:d<X.N)(h:stepBuildSlice X.P st d t m parts.toList= .ok s):WStep X D Γ nr st ⟨some d,.buildSlice t m parts,ty,ps,af,gd⟩ s:=by
 unfold stepBuildSlice at h;split at h
 ·cases h
 ·rename_i e he;split at h
  ·cases h
  ·rename_i b hb;split at h
   ·rename_i hm0;split at h
    ·rename_i hc;obtain⟨hf,hp0,h0⟩:=hc;simp only[Except.ok.injEq]at h;subst h hm0;intro ρ ρ' a w g hi hw hk hev;have:=evalB_nil hev;subst this;have hu:=elem_under he;have hpn:parts= #[]:=by
      have:=List.eq_nil_of_length_eq_zero hp0;simpa using this
     subst hpn;have hrun:(execOp a.eval ⟨some d,.buildSlice t 0 #[],ty,ps,af,gd⟩).run X.P w= .ok (.value (.slice (some ⟨w.heap.size,0,none⟩) 0 0)) (w.alloc (.cells #[] e)):=by
      have hso:=run_sizeOf (P:=X.P) (w:=w) (t:=e) h0;simp only[execOp,Instr.buildSlice,Sem.run_bind,run_underlying hu,Result.andThen_ok,hso,Nat.zero_mul,Sem.run_pure];have e0:Array.range 0= #[]:=Array.eq_empty_of_size_eq_zero (by simp);simp[Instr.fill,newRow,e0]
     unfold Oper.wp;rw[hrun];refine⟨fun _=> .of_lat (lat_alloc _ _),hi.newRoot hk hN _ _ _ fun g' q1 q2 q3 q4 q5 q6 p row hr=> ?_⟩;have hval:(At.get ρ' (.nil (.sl e b))).as (.sl e b)=[]:=by { show V.as (.sl e b) ⟨.sl e b,[]⟩=[];exact V.as_self _ _ }
     cases p with
     | nil=>
      rw[rows_nil_list,hval]at hr;simp only[Option.some.injEq]at hr;subst hr;exact list_row (cap:=0) (f:=fun _ _=>undef) q2 q4 (Nat.le_refl _) (Nat.zero_le _) h0 (by simp) (fun j c hc=>by simp at hc) (fun e0=>by cases e0) fun j c k q hc hq=>by simp at hc
     | cons q p=>
      obtain⟨_,rfl,y',hy,hs⟩:=rows_cons_list hr;rw[hval]at hy;simp at hy
    ·cases h
   by_cases hc:(b.flat=true/\inOrder 0 parts.toList=true/\parts.toList.length=m/\b.n=szOf X.P e/\0<b.n/\m*b.n<=16777216/\0<m/\(zeroN X.P e).isSome=true)
   ·rw[if_neg (fun hh=>hh hc)]at h;obtain⟨hf,hord,hm,hbn,h0,hsm,hmp,hz⟩:=hc;obtain⟨ys,hys,h⟩:=ok_bind h;simp only[Except.ok.injEq]at h;subst h;intro ρ ρ' a w g hi hw hk hev;obtain⟨v',hv',rfl⟩:=evalB_one hev;simp only[Ex.den1,Ex.den,Option.some.injEq]at hv';subst hv';obtain⟨N,hzN⟩:=Option.isSome_iff_exists.1 hz;obtain⟨i,z,hinfo,hzero,hzs⟩:=zeroN_spec hzN;have hisz:i.size=szOf X.P e:=by simp[szOf,hinfo]
    have hu:=elem_under he;obtain⟨hyl,hyp⟩:=parts_ok hi hf _ _ hys;have hyl:ys.length=m:=by rw[hyl,List.length_map];exact hm
    let vals:=parts.toList.map fun p=>a.eval p.2
    have hvl:vals.length=m:=by simp only[vals,List.length_map];exact hm
    have hval:∀(j:Nat) (c:List At),ys[j]? =some c->∃o,(parts.toList.map (·.2))[j]? =some o/\vals[j]? =some (a.eval o):=fun j c hj=>by
     have hlt:j<parts.toList.length:=by rw[hm,<-hyl];exact(List.getElem?_eq_some_iff.1 hj).1
     refine⟨(parts.toList[j]).2,by rw[List.getElem?_map,List.getElem?_eq_getElem hlt];rfl,?_⟩;simp only[vals];rw[List.getElem?_map,List.getElem?_eq_getElem hlt];rfl
    have hsz:∀v∈vals,v.cells.size=b.n:=fun v hv=>by
     obtain⟨j,hj⟩:=List.getElem?_of_mem hv;have hlt:j<ys.length:=by rw[hyl,<-hvl];exact(List.getElem?_eq_some_iff.1 hj).1
     obtain⟨o,ho1,ho2⟩:=hval j _ (List.getElem?_eq_getElem hlt);rw[hj]at ho2;cases ho2;exact(hyp j _ o (List.getElem?_eq_getElem hlt) ho1).1
    have hm1:¬m*b.n=0:=by
     have:1*1<=m*b.n:=Nat.mul_le_mul hmp h0;omega
    have hmm:m<=16777216:=Nat.le_trans (Nat.le_mul_of_pos_right m h0) hsm
    let cs0:=(Array.range (m*b.n)).map (z.cells[· % z.cells.size]!)
    have hcs0:cs0.size=m*b.n:=by simp[cs0]
    obtain⟨cs,hfill,hcsz,_,hcells⟩:=fill_all b.n vals 0 cs0 hsz (by rw[hvl,hcs0,Nat.zero_add];exact Nat.le_refl _);have hzip:=parts_zip a.eval parts.toList 0 hord;have hrun:(execOp a.eval ⟨some d,.buildSlice t m parts,ty,ps,af,gd⟩).run X.P w= .ok (.value (.slice (some ⟨w.heap.size,0,none⟩) m m)) (w.alloc (.cells cs e)):=by
     have hlim:¬(m*b.n>2 ^ 24):=by omega
     have hfill' :Instr.fill (fun i=>some (i*b.n,b.n)) ((Array.range (m*b.n)).map (z.cells[· % z.cells.size]!)) (parts.toList.map fun x=>(x.1,a.eval x.2))=some cs:=by
      have e1:(parts.toList.map fun x=>(x.1,a.eval x.2))=parts.toList.map (fun(i,x)=>(i,a.eval x)):=rfl;rw[e1,hzip];exact hfill
     have hm0:¬(m=0):=by omega
     have hzv:(zeroValue e).run X.P w= .ok z w:=by simp[zeroValue,typeInfo,hinfo,hzero]
     have hso:=run_sizeOf (P:=X.P) (w:=w) (t:=e) (by omega);rw[<-hbn]at hso;simp only[execOp,Instr.buildSlice,Sem.run_bind,run_underlying hu,Result.andThen_ok,hso,hlim,if_false,hm1,hzv,Sem.run_pure,Array.toList_map];simp[hfill',newRow]
    unfold Oper.wp;rw[hrun];have hi2:=hi.bindOne hw (v:=⟨.sl e b,ys.map fun c=>(mkv b (c.map (At.get ρ))).1⟩) rfl;have hvv:(st.ref.get (ρ++[⟨.sl e b,ys.map fun c=>(mkv b (c.map (At.get ρ))).1⟩])).as (.sl e b)=ys.map fun c=>(mkv b (c.map (At.get ρ))).1:=by rw[ref_get hi.len];exact V.as_self _ _
    refine⟨fun _=> .of_lat (lat_alloc _ _),hi2.newRoot (rok_bind hk _) hN _ _ _ fun g' q1 q2 q3 q4 q5 q6 p row hr=> ?_⟩;cases p with
    | nil=>
     rw[rows_nil_list,hvv]at hr;simp only[Option.some.injEq]at hr;subst hr;have hel:((ys.map fun c=>(mkv b (c.map (At.get ρ))).1).mapIdx fun i y=>encIn none (st.bind (.sl e b)).nr i b y).length=m:=by simp[hyl]
     have hget:∀(j:Nat) (c:List C),((ys.map fun c=>(mkv b (c.map (At.get ρ))).1).mapIdx fun i y=>encIn none (st.bind (.sl e b)).nr i b y)[j]? =some c->∃y,ys[j]? =some y/\c=enc none b (mkv b (y.map (At.get ρ))).1:=fun j c hc=>by
      rw[List.getElem?_mapIdx,List.getElem?_map,Option.map_map,Option.map_eq_some_iff]at hc;obtain⟨y,hy,rfl⟩:=hc;exact⟨y,hy,by simp only[Function.comp,encIn];exact encE_flat _ _ none 0 b _ hf⟩
     refine list_row (cap:=m) (f:=fun i k=>(vals.getD i undef).cells.getD k undef) (by rw[hel];exact q2) q4 (by omega) (by simp only[maxLen];omega) (by omega) (by rw[hcsz,hcs0,hbn]) (fun j c hc=>by obtain⟨y,_,rfl⟩:=hget j c hc;rw[enc_length,hbn]) (fun _ e0=>by rw[e0]at hel;simp at hel;omega) fun j c k q hc hq=> ?_
     obtain⟨y,hy,rfl⟩:=hget j c hc;obtain⟨o,ho1,ho2⟩:=hval j y hy;obtain⟨_,_,h3⟩:=hyp j y o hy ho1;obtain⟨u,hu',hr',h1'⟩:=h3 k q hq;have hkb:k<b.n:=by rw[<-enc_length none b (mkv b (y.map (At.get ρ))).1];exact(List.getElem?_eq_some_iff.1 hq).1
     have hcell:=hcells j _ ho2 k hkb;rw[Nat.zero_add,hu']at hcell;have hfu:(vals.getD j undef).cells.getD k undef=u:=by
      rw[List.getD,ho2];simp only[Option.getD_some];rw[Array.getD_eq_getD_getElem?,hu'];rfl
     refine⟨by rw[<-hbn,hcell,hfu],?_⟩;show CRep _ g' q ((vals.getD j undef).cells.getD k undef);rw[hfu];exact scal_rep hr' (flat_scal b _ k q hf hq)
    | cons q p=>
     obtain⟨_,rfl,y',hy,hs⟩:=rows_cons_list hr;rw[flat_noRow _ _ _ _ hf]at hs;cases hs
   ·rw[if_pos hc]at h;cases h
end
end Go.Pu
/-
  Own work. Freezing: what a root owns becomes memory that is only read. No operation: the ghosts alone change.
-/
namespace Go.Pu
open Go Go.RowKit
set_option linter.unusedVariables false
set_option linter.unusedSectionVars false
theorem setR_get (st:St)(r r' :Nat)(k:RK):(st.setR r k).rk r' =(if r' =r then k else st.rk r')\/(r' =r/\(st.setR r k).rk r' = .dead):=by
 unfold St.setR St.rk;simp only[List.getD];by_cases h:r' =r
 ·subst h;by_cases hl:r' <st.roots.length
  ·left;rw[List.getElem?_set_self hl,if_pos rfl];rfl
  ·right;exact⟨rfl,by rw[List.getElem?_eq_none (by simpa using hl)];rfl⟩
 ·left;rw[List.getElem?_set_ne (Ne.symm h),if_neg h]
section
variable {P:Program} {w:World} {g g' :G}
theorem CRep.mono {x:C}{v:Value}(h:CRep w g x v)(hl:∀l,g'.hdr l=g.hdr l)(hr:∀rg b,g.reg rg b->g'.reg rg b):CRep w g' x v:=by
 induction h with
 | int k z=>exact .int k z
 | bool b=>exact .bool b
 | nil=>exact .nil
 | gone v=>exact .gone v
 | ro0 rg a cap=>exact .ro0 rg a cap
 | ro rg els b off n cap s f hn hc hm hS hs hsz hcell hrep ih=>exact .ro rg els b off n cap s f hn hc hm (hr _ _ hS) hs hsz hcell ih
 | rp rg cells b off f hS hcell hrep ih=>exact .rp rg cells b off f (hr _ _ hS) hcell ih
 | hd l v hv=>exact .hd l v (hv.trans (hl l).symm)
 | fn f caps vs hs hrep ih=>exact .fn f caps vs hs ih
 | sub l s lo n v hv=>exact .sub l s lo n v (by rw[hl];exact hv)
 | both x y v _ _ h1 h2=>exact .both x y v h1 h2
theorem AggRep.mono {xs:List C}{v:Value}(h:AggRep w g xs v)(hl:∀l,g'.hdr l=g.hdr l)(hr:∀rg b,g.reg rg b->g'.reg rg b):AggRep w g' xs v:=by
 obtain⟨vs,h1,h2,h3⟩:=h;exact⟨vs,h1,h2,fun k x q=>by obtain⟨u,hu,hc⟩:=h3 k x q;exact⟨u,hu,hc.mono hl hr⟩⟩
theorem PRep.mono {p:PV}{v:Value}(h:PRep P w g p v)(hl:∀l,g'.hdr l=g.hdr l)(hr:∀rg b,g.reg rg b->g'.reg rg b):PRep P w g' p v:=by
 cases p with
 | c x=>exact CRep.mono h hl hr
 | agg xs=>exact AggRep.mono h hl hr
 | ad l e i k=>obtain⟨b,base,h1,h2⟩:=h;exact⟨b,base,by rw[hl];exact h1,h2⟩
 | ra rg cells=>obtain⟨b,off,f,h1,h2,h3⟩:=h;exact⟨b,off,f,hr _ _ h1,h2,fun k x q=>⟨(h3 k x q).1,(h3 k x q).2.mono hl hr⟩⟩
 | tup rs=>
  obtain⟨vs,h1,h2,h3⟩:=h;refine⟨vs,h1,h2,fun k r q=> ?_⟩;obtain⟨u,hu,hc⟩:=h3 k r q;refine⟨u,hu,?_⟩;cases r with
  | one x=>exact CRep.mono hc hl hr
  | agg xs=>exact AggRep.mono hc hl hr
 | und=>exact h
 | junk=>trivial
theorem RowRep.mono {l:Loc}{row:Row}(h:RowRep P w g l row)(hl:∀l,g'.hdr l=g.hdr l)(hr:∀rg b,g.reg rg b->g'.reg rg b)(ho:∀b,g.own b=some l->g'.own b=some l):RowRep P w g' l row:=by
 cases h with
 | nil nl e hd=>exact .nil nl e ((hl l).trans hd)
 | zero e a hd=>exact .zero e a ((hl l).trans hd)
 | full bx nl e els b base n cap cs f h=>exact .full bx nl e els b base n cap cs f ⟨(hl l).trans h.hd,ho b h.own,h.heap,h.len,h.hcap,h.hmax,h.fit,h.pos,h.size,h.cell,fun i c k x q1 q2=>(h.rep i c k x q1 q2).mono hl hr,h.nonil⟩
 | mp kvs b clk es hd own heap hes=>exact .mp kvs b clk es ((hl l).trans hd) (ho b own) heap hes
theorem RowRep.conv {l:Loc}{bx nl:Bool}{e:TypeId}{els els' :List (List C)}(h:RowRep P w g l (.row bx nl e els))(h0:g'.hdr l=g.hdr l)(ho:∀b,g.own b=some l->g'.own b=some l)(hl:els'.length=els.length)
 (hc:∀(i:Nat) (c c' :List C),els[i]? =some c->els'[i]? =some c'→c'.length=c.length/\∀(k:Nat) (x x' :C) (u:Value),c[k]? =some x->c'[k]? =some x'→CRep w g x u->CRep w g' x' u):RowRep P w g' l (.row bx nl e els'):=by
 have nil_of:els=[]->els' =[]:=fun e0=>by subst e0;exact List.eq_nil_of_length_eq_zero hl
 generalize hrow:Row.row bx nl e els=row at h;cases h with
 | nil nl e hd=>cases hrow;rw[nil_of rfl];exact .nil _ _ (h0.trans hd)
 | zero e a hd=>cases hrow;rw[nil_of rfl];exact .zero _ a (h0.trans hd)
 | full bx nl e els b base n cap cs f h=>
  cases hrow;refine .full _ _ _ _ b base n cap cs f ⟨h0.trans h.hd,ho b h.own,h.heap,by rw[hl];exact h.len,h.hcap,h.hmax,h.fit,h.pos,fun i c' q=> ?_,fun i c' k x' q1 q2=> ?_,fun i c' k x' q1 q2=> ?_,fun e0 e1=> ?_⟩
  ·obtain⟨c,hcc⟩:=get_other (l:=els) (by omega) q;rw[(hc i c c' hcc q).1];exact h.size i c hcc
  ·obtain⟨c,hcc⟩:=get_other (l:=els) (by omega) q1;obtain⟨x,hx⟩:=get_other (l:=c) (by rw[(hc i c c' hcc q1).1];exact Nat.le_refl _) q2;exact h.cell i c k x hcc hx
  ·obtain⟨c,hcc⟩:=get_other (l:=els) (by omega) q1;obtain⟨x,hx⟩:=get_other (l:=c) (by rw[(hc i c c' hcc q1).1];exact Nat.le_refl _) q2;exact(hc i c c' hcc q1).2 k x x' _ hx q2 (h.rep i c k x hcc hx)
  ·exact h.nonil e0 (List.eq_nil_of_length_eq_zero (by rw[e1]at hl;exact hl.symm))
 | mp=>cases hrow
theorem row_ro0 {l:Loc}{nl:Bool}{e:TypeId}{els:List (List C)}(h:RowRep P w g l (.row false nl e els))(hS:∀b,g.own b=some l->g'.S b)(hl:∀l,g'.hdr l=g.hdr l)(hr:∀rg b,g.reg rg b->g'.reg rg b):CRep w g' (.ro none els) (g.hdr l):=by
 cases h with
 | nil _ _ hd=>rw[hd];exact .ro0 _ _ _
 | zero _ A hd=>rw[hd];exact .ro0 _ _ _
 | full _ _ _ _ b base n cap cs f hf=>
  rw[hf.hd];refine .ro none els b base n cap (szOf P e) f hf.len hf.hcap hf.hmax (hS b hf.own) hf.pos hf.size (fun i c k x h1 h2=> ?_) (fun i c k x h1 h2=>(hf.rep i c k x h1 h2).mono hl hr);rw[cell_of_row w b _ cs e (0,0) hf.heap];exact hf.cell i c k x h1 h2
end
def frzG (g:G)(q:Loc->Bool):G:={ S:=fun b=>g.S b\/∃l,g.own b=some l/\q l=true,own:=fun b=>match g.own b with | some l=>bif q l then none else some l | none=>none,hdr:=g.hdr }
section
variable {X:Ctx} {D:Nat->Prop} {st:St} {ρ:Env} {a:Act} {w:World} {g:G} {q:Loc->Bool}
theorem frzG_keep {b:Nat}{l:Loc}(h:g.own b=some l)(hq:q l=false):(frzG g q).own b=some l:=by
 simp only[frzG,h,hq,cond_false]
theorem frzG_reg:∀rg b,g.reg rg b->(frzG g q).reg rg b:=fun rg b hb=>by
 cases rg with
 | none=>exact .inl hb
 | some r=>
  rcases hb with hb | ⟨p,hb⟩
  ·exact .inl (.inl hb)
  ·cases hq:q (r,p)with
   | true=>exact .inl (.inr ⟨_,hb,hq⟩)
   | false=>exact .inr ⟨p,frzG_keep hb hq⟩
theorem frzG_gok (h:GOK X g w):GOK X (frzG g q) w:=by
 refine⟨h.chg,h.base,fun b hb=> ?_,fun b l hl=> ?_⟩
 ·rcases hb with hb | ⟨l,hl,_⟩
  ·exact h.S b hb
  ·have:=h.own b l hl;exact⟨this.2.1,.inr this.1⟩
 ·simp only[frzG]at hl;split at hl
  ·rename_i l0 h0;cases hq:q l0 with
   | true=>rw[hq]at hl;cases hl
   | false=>
    rw[hq]at hl;cases hl;have:=h.own b l h0;refine⟨this.1,this.2.1,fun hS=> ?_⟩;rcases hS with hS | ⟨l1,h1,h2⟩
    ·exact this.2.2 hS
    ·rw[h0]at h1;cases h1;rw[hq]at h2;cases h2
  ·cases hl
theorem noD0 (hi:TInv X D st ρ a w g)(hd:st.dirty=[]):∀b,¬D b:=fun b hb=>by
 obtain⟨p,_,hp,_⟩:=hi.dirt.1 b hb;rw[hd]at hp;cases hp
theorem frzOk_spec {r:Nat}(h:st.frzOk r=true):r∉st.fix/\st.dirty=[]/\r<st.nr:=by
 unfold St.frzOk at h;simp only[Bool.and_eq_true,Bool.not_eq_true',Nat.blt_eq]at h;refine⟨fun hm=> ?_,by simpa using h.1.2,h.2⟩;have:st.fix.contains r=true:=by simpa using hm
 rw[this]at h;cases h.1.1
theorem frzI_cell {r i:Nat}{g' :G}(hS:∀b p,p≠[]->g.own b=some (r,p)->g'.S b)(hl:∀l,g'.hdr l=g.hdr l)(hr:∀rg b,g.reg rg b->g'.reg rg b):∀(t:Ty) (k0:Nat) (x:t.den),t.flat1=true->(∀j row,subRow k0 t x j=some row->RowRep X.P w g (r,[(i,j)]) row)->
 ∀(m:Nat) (c c' :C) (u:Value),(encE r i k0 t x)[m]? =some c->(enc none t x)[m]? =some c'→CRep w g c u->CRep w g' c' u
 | .int k,k0,x,_,_,m,c,c',u,h1,h2,h=>by simp only[encE,enc]at h1 h2;rw[h1]at h2;cases h2;exact h.mono hl hr
 | .bool,k0,x,_,_,m,c,c',u,h1,h2,h=>by simp only[encE,enc]at h1 h2;rw[h1]at h2;cases h2;exact h.mono hl hr
 | .unit,k0,x,_,_,m,c,c',u,h1,h2,h=>by simp[encE]at h1
 | .pr a b,k0,x,hf,hrr,m,c,c',u,h1,h2,h=>by
  simp only[Ty.flat1,Bool.and_eq_true]at hf;simp only[encE,enc]at h1 h2;have la:=encE_length r i k0 a x.1;have la' :=enc_length none a x.1;by_cases hm:m<a.n
  ·rw[List.getElem?_append_left (by omega)]at h1 h2;refine frzI_cell hS hl hr a k0 x.1 hf.1 (fun j row hj=>hrr j row ?_) m c c' u h1 h2 h;simp only[subRow];have:=subRow_lt a k0 x.1 j row hj;have hb:Nat.blt j (k0+a.n)=true:=by simp;omega
   rw[hb];exact hj
  ·rw[List.getElem?_append_right (by omega)]at h1 h2;rw[la]at h1;rw[la']at h2;refine frzI_cell hS hl hr b (k0+a.n) x.2 hf.2 (fun j row hj=>hrr j row ?_) (m - a.n) c c' u h1 h2 h;simp only[subRow];have:=subRow_lt b (k0+a.n) x.2 j row hj;have hb:Nat.blt j (k0+a.n)=false:=by
    cases hh:Nat.blt j (k0+a.n)with
    | false=>rfl
    | true=>simp at hh;omega
   rw[hb];exact hj
 | .sl e a,k0,xs,hf,hrr,m,c,c',u,h1,h2,h=>by
  have hm:m=0:=by
   have:=(List.getElem?_eq_some_iff.1 h1).1;simp[encE]at this;exact this
  subst hm;simp only[encE,List.getElem?_cons_zero,Option.some.injEq]at h1;simp only[enc,List.getElem?_cons_zero,Option.some.injEq]at h2;subst h1 h2;have hrow:=hrr k0 (.row false false e (List.map (enc none a) xs)) (by simp[subRow]);rw[hd_eq h];exact row_ro0 hrow (fun b hb=>hS b _ (by simp) hb) hl hr
 | .mp,k0,x,hf,_,_,_,_,_,_,_,_=>by simp[Ty.flat1]at hf
def qI (r:Nat)(l:Loc):Bool:=Nat.beq l.1 r && !l.2.isEmpty
theorem TInv.frzI (h:TInv X D st ρ a w g)(r:Nat):∃g',TInv X D (st.frzI r) ρ a w g' :=by
 unfold St.frzI;split
 rotate_left
 ·exact⟨g,h⟩
 rename_i e b v nl hr;split
 rotate_left
 ·exact⟨g,h⟩
 rename_i hc;obtain⟨h1,h2,h3⟩:=hc;obtain⟨k1,k2,k3⟩:=frzOk_spec h1;refine⟨frzG g (qI r),⟨h.typ,⟨h.inv.size,h.inv.nodef,frzG_gok h.inv.ok,fun s=>(h.inv.slot s).mono (fun _=>rfl) frzG_reg,fun l row hl=> ?_⟩,h.fixd,⟨fun b hb=>absurd hb (noD0 h k2 b),fun r0 b0 q0 hq=>by
  have:st.dirty=[(r0,true)]:=hq;rw[k2]at this;cases this⟩⟩⟩
 obtain⟨r',p⟩:=l;have hl2:RK.rows ρ r' ((st.setR r (.list e b v nl (some none))).rk r') p=some row:=hl
 clear hl
 have hl:=hl2
 clear hl2
 rcases setR_get st r r' (.list e b v nl (some none))with e1 | ⟨_,e1⟩
 rotate_left
 ·rw[e1,rows_dead]at hl;cases hl
 rw[e1]at hl;split at hl
 rotate_left
 ·rename_i hne;refine(h.inv.row (r',p) row hl).mono (fun _=>rfl) frzG_reg (fun b hb=>frzG_keep hb ?_);unfold qI;cases hb2:Nat.beq r' r with
  | false=>rfl
  | true=>exact absurd (Nat.eq_of_beq_eq_true hb2) hne
 ·rename_i e2;subst e2;cases p with
  | cons x p=>
   simp only[RK.rows]at hl;cases hl
  | nil=>
   rw[rows_nil_list]at hl;cases hl;refine(row_of h hr).conv rfl (fun b hb=>frzG_keep hb (by simp[qI])) (by simp) fun i c c' q1 q2=> ?_
   rw[List.getElem?_mapIdx,Option.map_eq_some_iff]at q1 q2;obtain⟨y,hy,rfl⟩:=q1;obtain⟨y',hy',rfl⟩:=q2;rw[hy]at hy';cases hy'
   refine⟨by simp only[encIn,enc_length,encE_length],fun k x x' u q3 q4 hx=> ?_⟩;exact frzI_cell (X:=X) (g' :=frzG g (qI r')) (fun b0 p0 hp0 ho=> .inr ⟨_,ho,by simp[qI];exact hp0⟩) (fun _=>rfl) frzG_reg b 0 y h2 (fun j row hj=>sub_of h hr hy hj) k x x' u q3 q4 hx
theorem frzL_len {r:Nat}{v:At}:∀(cs:List SC),(frzL r v cs).length=cs.length
 | []=>by simp[frzL]
 | c::cs=>by simp[frzL,frzL_len cs]
def qT (r:Nat)(l:Loc):Bool:=Nat.beq l.1 r
theorem qT_reg {r:Nat}:∀b,g.reg (some r) b->(frzG g (qT r)).reg none b:=fun b hb=>by
 rcases hb with hb | ⟨p,hb⟩
 ·exact .inl hb
 ·exact .inr ⟨_,hb,by simp[qT]⟩
theorem els_frz {r:Nat}{x:At}{u:Value}(h:CRep w g (.ro (some r) ((x.get ρ).els (some r))) u):CRep w (frzG g (qT r)) (.ro none ((x.get ρ).els none)) u:=by
 refine h.rel (ml:=fun _ _=>False) (mr:=fun a b=>a=some r/\b=none) (fun _ _ h=>h.elim) (fun a b ⟨h1,h2⟩ k hk=>by subst h1 h2;exact⟨qT_reg k hk,rfl⟩) ?_
 generalize x.get ρ=y;obtain⟨t,y⟩:=y;cases t with
 | sl e b=>exact enc_rel (ml:=fun _ _=>False) (mr:=fun a b=>a=some r/\b=none) (.sl e b) (.inr ⟨rfl,rfl⟩) y 0 _ _ rfl rfl
 | _=>exact .ro _ _ _ _ rfl (fun h=>absurd rfl h) (fun i cs cs' q=>by simp[V.els]at q) (fun i cs cs' k x x' q=>by simp[V.els]at q)
section
variable {r:Nat} {v:At}
mutual
theorem SC.frz_rep (H:CRep w (frzG g (qT r)) (.ro none ((v.get ρ).els none)) (g.hdr (r,[]))):∀(c:SC) (u:Value),CRep w g (c.enc ρ) u->CRep w (frzG g (qT r)) ((c.frz r v).enc ρ) u
 | .v x,u,h=>by simp only[SC.frz];exact h.mono (fun _=>rfl) frzG_reg
 | .s none x,u,h=>by simp only[SC.frz];exact h.mono (fun _=>rfl) frzG_reg
 | .s (some r') x,u,h=>by
  simp only[SC.frz];cases hb:Nat.beq r' r with
  | false=>exact h.mono (fun _=>rfl) frzG_reg
  | true=>
   have e:=Nat.eq_of_beq_eq_true hb;subst e;simp only[SC.enc,cond_true]at h ⊢;exact els_frz h
 | .nil,u,h=>by simp only[SC.frz];exact h.mono (fun _=>rfl) frzG_reg
 | .gone,u,h=>by simp only[SC.frz];exact h.mono (fun _=>rfl) frzG_reg
 | .h r',u,h=>by
  simp only[SC.frz];cases hb:Nat.beq r' r with
  | false=>exact h.mono (fun _=>rfl) frzG_reg
  | true=>
   have e:=Nat.eq_of_beq_eq_true hb;subst e;simp only[SC.enc,cond_true]at h ⊢;rw[hd_eq h];exact H
 | .hn r' i k x,u,h=>by
  simp only[SC.frz];cases hb:Nat.beq r' r with
  | false=>exact h.mono (fun _=>rfl) frzG_reg
  | true=>
   have e:=Nat.eq_of_beq_eq_true hb;subst e;simp only[SC.enc,cond_true]at h ⊢;exact els_frz (both_r h)
 | .hs r' lo hi x,u,h=>by
  simp only[SC.frz];cases hb:Nat.beq r' r with
  | false=>exact h.mono (fun _=>rfl) frzG_reg
  | true=>
   have e:=Nat.eq_of_beq_eq_true hb;subst e;simp only[SC.enc,cond_true]at h ⊢;exact els_frz (both_r h)
 | .tk r' x,u,h=>by
  simp only[SC.frz];cases hb:Nat.beq r' r with
  | false=>exact h.mono (fun _=>rfl) frzG_reg
  | true=>
   simp only[SC.enc,cond_true]at h ⊢;exact(both_r h).mono (fun _=>rfl) frzG_reg
 | .rp none cells,u,h=>by
  have ih:=frzL_rep H cells;simp only[SC.frz,SC.enc]at h ⊢;cases h with
  | rp _ _ b off f hS hcell hrep=>
   refine .rp none _ b off f (frzG_reg _ _ hS) (fun k x q=> ?_) (fun k x q=> ?_)
   ·obtain⟨q0,hq0,_⟩:=ih k x q;exact hcell k q0 hq0
   ·obtain⟨q0,hq0,hh⟩:=ih k x q;exact hh _ (hrep k q0 hq0)
 | .rp (some r') cells,u,h=>by
  have ih:=frzL_rep H cells;simp only[SC.frz];cases hb:Nat.beq r' r with
  | false=>
   simp only[SC.enc,cond_false]at h ⊢;cases h with
   | rp _ _ b off f hS hcell hrep=>
    refine .rp _ _ b off f (frzG_reg _ _ hS) (fun k x q=> ?_) (fun k x q=> ?_)
    ·obtain⟨q0,hq0,_⟩:=ih k x q;exact hcell k q0 hq0
    ·obtain⟨q0,hq0,hh⟩:=ih k x q;exact hh _ (hrep k q0 hq0)
  | true=>
   have e:=Nat.eq_of_beq_eq_true hb;subst e;simp only[SC.enc,cond_true]at h ⊢;cases h with
   | rp _ _ b off f hS hcell hrep=>
    refine .rp _ _ b off f (qT_reg _ hS) (fun k x q=> ?_) (fun k x q=> ?_)
    ·obtain⟨q0,hq0,_⟩:=ih k x q;exact hcell k q0 hq0
    ·obtain⟨q0,hq0,hh⟩:=ih k x q;exact hh _ (hrep k q0 hq0)
 | .fn f caps,u,h=>by
  have ih:=frzL_rep H caps;simp only[SC.frz,SC.enc]at h ⊢;cases h with
  | fn _ _ vs hs hrep=>
   refine .fn f _ vs (by rw[hs,encL_map,encL_map];simp only[List.length_map];exact(frzL_len caps).symm) (fun k x q=> ?_);obtain⟨q0,hq0,hh⟩:=ih k x q;exact hh _ (hrep k q0 hq0)
theorem frzL_rep (H:CRep w (frzG g (qT r)) (.ro none ((v.get ρ).els none)) (g.hdr (r,[]))):∀(cs:List SC) (k:Nat) (q' :C),(encL ρ (frzL r v cs))[k]? =some q'→∃q,(encL ρ cs)[k]? =some q/\∀u,CRep w g q u->CRep w (frzG g (qT r)) q' u
 | [],k,q',h=>by simp[frzL,encL]at h
 | c::cs,0,q',h=>by
  simp only[frzL,encL,List.getElem?_cons_zero,Option.some.injEq]at h;subst h;exact⟨_,rfl,SC.frz_rep H c⟩
 | c::cs,k+1,q',h=>by
  simp only[frzL,encL,List.getElem?_cons_succ]at h ⊢;exact frzL_rep H cs k q' h
end
theorem agg_frz (H:CRep w (frzG g (qT r)) (.ro none ((v.get ρ).els none)) (g.hdr (r,[]))){xs:List SC}{u:Value}(h:AggRep w g (encL ρ xs) u):AggRep w (frzG g (qT r)) (encL ρ (frzL r v xs)) u:=by
 obtain⟨vs,h1,h2,h3⟩:=h;refine⟨vs,h1,by rw[h2,encL_map,encL_map];simp only[List.length_map];exact(frzL_len xs).symm,fun k x q=> ?_⟩;obtain⟨q0,hq0,hh⟩:=frzL_rep H xs k x q;obtain⟨u,hu,hc⟩:=h3 k q0 hq0;exact⟨u,hu,hh u hc⟩
theorem SV.frz_rep (H:CRep w (frzG g (qT r)) (.ro none ((v.get ρ).els none)) (g.hdr (r,[]))){P:Program}(sv:SV){u:Value}(h:PRep P w g (sv.enc ρ) u):PRep P w (frzG g (qT r)) ((sv.frz r v).enc ρ) u:=by
 cases sv with
 | c x=>exact SC.frz_rep H x u h
 | agg xs=>exact agg_frz H h
 | ad r' e i k=>
  simp only[SV.frz];cases hb:Nat.beq r' r with
  | true=>trivial
  | false=>exact PRep.mono h (fun _=>rfl) frzG_reg
 | ra rg cells=>
  have key:∀rg',(∀b,g.reg rg b->(frzG g (qT r)).reg rg' b)->PRep P w (frzG g (qT r)) ((SV.ra rg' (frzL r v cells)).enc ρ) u:=fun rg' hr=>by
   obtain⟨b,off,f,h1,h2,h3⟩:=h;refine⟨b,off,f,hr b h1,h2,fun k x q=> ?_⟩;obtain⟨q0,hq0,hh⟩:=frzL_rep H cells k x q;exact⟨(h3 k q0 hq0).1,hh _ (h3 k q0 hq0).2⟩
  cases rg with
  | none=>exact key none (frzG_reg none)
  | some r' =>
   simp only[SV.frz];cases hb:Nat.beq r' r with
   | true=>
    have e:=Nat.eq_of_beq_eq_true hb;subst e;exact key none qT_reg
   | false=>exact key _ (frzG_reg _)
 | tup rs=>
  obtain⟨vs,h1,h2,h3⟩:=h;refine⟨vs,h1,by rw[h2];simp,fun k x q=> ?_⟩;rw[List.map_map,List.getElem?_map,Option.map_eq_some_iff]at q;obtain⟨y,hy,rfl⟩:=q;obtain⟨u,hu,hc⟩:=h3 k (encR ρ y) (by rw[List.getElem?_map,hy];rfl);refine⟨u,hu,?_⟩;obtain⟨y1,y2⟩:=y;simp only[Function.comp,encR]at hc ⊢;cases y1 with
  | true=>exact agg_frz H hc
  | false=>
   simp only[Bool.false_eq_true,if_false]at hc ⊢;cases y2 with
   | nil=>simp only[frzL,encL];exact .gone u
   | cons c cs=>
    simp only[frzL,encL]at hc ⊢;exact SC.frz_rep H c u hc
 | und=>exact h
 | junk=>trivial
end
theorem mapIdx_map0 {α β:Type}(f:α->β)(xs:List α):(xs.mapIdx fun _ y=>f y)=xs.map f:=List.ext_getElem? fun i=>by rw[List.getElem?_mapIdx,List.getElem?_map]
theorem TInv.frzT (h:TInv X D st ρ a w g)(r:Nat):∃g',TInv X D (st.frzT r) ρ a w g' :=by
 unfold St.frzT;split
 rotate_left
 ·exact⟨g,h⟩
 rename_i e b v nl hr;split
 rotate_left
 ·exact⟨g,h⟩
 rename_i hc;obtain⟨h1,h3⟩:=hc;obtain⟨k1,k2,k3⟩:=frzOk_spec h1;have H:CRep w (frzG g (qT r)) (.ro none ((v.get ρ).els none)) (g.hdr (r,[])):=by
  have hvg:=V.list_of (At.ty_get h.typ h3);have hrow:=row_of h hr;have e0:(((v.get ρ).as (.sl e b):List b.den).mapIdx fun i y=>encIn (some none) r i b y)=((v.get ρ).as (.sl e b)).map (enc none b):=mapIdx_map0 _ _;rw[e0]at hrow;have e1:(v.get ρ).els none=List.map (enc none b) ((v.get ρ).as (.sl e b)):=by rw[hvg];simp only[V.els,V.as_self]
  rw[e1];exact row_ro0 hrow (fun b0 hb0=> .inr ⟨_,hb0,by simp[qT]⟩) (fun _=>rfl) frzG_reg
 refine⟨frzG g (qT r),⟨h.typ,⟨h.inv.size,h.inv.nodef,frzG_gok h.inv.ok,fun s=> ?_,fun l row hl=> ?_⟩,h.fixd,⟨fun b hb=>absurd hb (noD0 h k2 b),fun r0 b0 q0 hq=>by
  have:st.dirty=[(r0,true)]:=hq;rw[k2]at this;cases this⟩⟩⟩
 ·have hs:({ st with slots:=st.slots.map (SV.frz r v),roots:=(st.roots.map (RK.frz r v)).set r .dead }:St).slot s=(st.slot s).frz r v\/({ st with slots:=st.slots.map (SV.frz r v),roots:=(st.roots.map (RK.frz r v)).set r .dead }:St).slot s= .junk:=by
   unfold St.slot;simp only[List.getD,List.getElem?_map];cases st.slots[s]? with
   | none=>right;rfl
   | some x=>left;rfl
  show PRep X.P w _ (SV.enc ρ (St.slot _ s)) _;rcases hs with e0 | e0
  ·rw[e0];exact SV.frz_rep H _ (h.inv.slot s)
  ·rw[e0];trivial
 obtain⟨r',p⟩:=l;have hrk:({ st with slots:=st.slots.map (SV.frz r v),roots:=(st.roots.map (RK.frz r v)).set r .dead }:St).rk r' = .dead\/(r'≠r/\({ st with slots:=st.slots.map (SV.frz r v),roots:=(st.roots.map (RK.frz r v)).set r .dead }:St).rk r' =(st.rk r').frz r v):=by
  unfold St.rk;simp only[List.getD];by_cases hrr:r' =r
  ·subst hrr
   left
   by_cases hl2:r' <st.roots.length
   ·rw[List.getElem?_set_self (by simpa using hl2)];rfl
   ·rw[List.getElem?_eq_none (by simpa using hl2)];rfl
  ·rw[List.getElem?_set_ne (Ne.symm hrr),List.getElem?_map];cases st.roots[r']? with
   | none=>left;rfl
   | some x=>right;exact⟨hrr,rfl⟩
 have hl:RK.rows ρ r' (St.rk { st with slots:=st.slots.map (SV.frz r v),roots:=(st.roots.map (RK.frz r v)).set r .dead } r') p=some row:=hl;rcases hrk with e0 | ⟨hne,e0⟩
 ·rw[e0,rows_dead]at hl;cases hl
 rw[e0]at hl;have hq0:∀b0,g.own b0=some (r',p)->(frzG g (qT r)).own b0=some (r',p):=fun b0 hb0=>frzG_keep hb0 (by
  unfold qT;cases hb2:Nat.beq r' r with
  | false=>rfl
  | true=>exact absurd (Nat.eq_of_beq_eq_true hb2) hne)
 have same:(st.rk r').frz r v=st.rk r'→RowRep X.P w (frzG g (qT r)) (r',p) row:=fun e1=>by
  rw[e1]at hl;exact(h.inv.row (r',p) row hl).mono (fun _=>rfl) frzG_reg hq0
 cases hk:st.rk r' with
 | box e' cells=>
  rw[hk]at hl;cases p with
  | cons x p=>simp[RK.frz,RK.rows]at hl
  | nil=>
   simp only[RK.frz,RK.rows,Option.some.injEq]at hl;subst hl;have h0:=h.inv.row (r',[]) (.row true false e' [encL ρ cells]) (by show RK.rows ρ r' (st.rk r') []=_;rw[hk];rfl);refine h0.conv rfl hq0 rfl fun i c c' q1 q2=> ?_
   cases i with
   | succ i=>cases q1
   | zero=>
    cases q1;cases q2
    refine⟨by rw[encL_map,encL_map,List.length_map,List.length_map];exact frzL_len cells,fun k x x' u q3 q4 hx=> ?_⟩;obtain⟨q0,hq00,hh⟩:=frzL_rep H cells k x' q4;rw[q3]at hq00;cases hq00
    exact hh u hx
 | list e' b' v' nl' inner=>
  cases inner with
  | none=>exact same (by rw[hk];rfl)
  | some rg=>
   cases rg with
   | none=>exact same (by rw[hk];rfl)
   | some r2=>
    cases hb2:Nat.beq r2 r with
    | false=>exact same (by rw[hk];simp only[RK.frz,hb2,cond_false])
    | true=>
     have e2:=Nat.eq_of_beq_eq_true hb2;subst e2;rw[hk]at hl;simp only[RK.frz,hb2,cond_true]at hl;cases p with
     | cons x p=>simp only[RK.rows]at hl;cases hl
     | nil=>
      rw[rows_nil_list]at hl;cases hl;refine(row_of h hk).conv rfl hq0 (by simp) fun i c c' q1 q2=> ?_
      rw[List.getElem?_mapIdx,Option.map_eq_some_iff]at q1 q2;obtain⟨y,hy,rfl⟩:=q1;obtain⟨y',hy',rfl⟩:=q2;rw[hy]at hy';cases hy'
      refine⟨by simp only[encIn,enc_length],fun k x x' u q3 q4 hx=> ?_⟩;exact hx.rel (ml:=fun _ _=>False) (mr:=fun a b=>a=some r2/\b=none) (fun _ _ h=>h.elim) (fun a b ⟨h1,h2⟩ k hk=>by subst h1 h2;exact⟨qT_reg k hk,rfl⟩) (enc_rel b' (.inr ⟨rfl,rfl⟩) y k x x' q3 q4)
 | listH e' b' v' nl' i k=>exact same (by rw[hk];rfl)
 | mp v' =>exact same (by rw[hk];rfl)
 | dead=>exact same (by rw[hk];rfl)
theorem TInv.frzR (h:TInv X D st ρ a w g)(r:Nat):∃g',TInv X D (st.frzR r) ρ a w g' :=by
 obtain⟨g1,h1⟩:=h.frzI r;exact h1.frzT r
theorem frzCells_ok:∀(cs:List SC) (st:St) (g:G),TInv X D st ρ a w g->∃g',TInv X D (frzCells cs st) ρ a w g'
 | [],st,g,h=>⟨g,h⟩
 | c::cs,st,g,h=>by
  unfold frzCells;split
  ·rename_i r _;obtain⟨g1,h1⟩:=h.frzR r;exact frzCells_ok cs _ g1 h1
  ·exact frzCells_ok cs _ g h
theorem frzSV_ok (v:SV)(h:TInv X D st ρ a w g):∃g',TInv X D (frzSV v st) ρ a w g' :=by
 cases v<;>first | exact frzCells_ok _ _ _ h | exact⟨g,h⟩
theorem frzOps_ok:∀(os:List Operand) (st:St) (g:G),TInv X D st ρ a w g->∃g',TInv X D (frzOps os st) ρ a w g'
 | [],st,g,h=>⟨g,h⟩
 | o::os,st,g,h=>by
  unfold frzOps;split
  ·rename_i v _;obtain⟨g1,h1⟩:=frzSV_ok v h;exact frzOps_ok os _ g1 h1
  ·exact frzOps_ok os _ g h
theorem frzTgt_ok (v:M SV)(h:TInv X D st ρ a w g):∃g',TInv X D (frzTgt v st) ρ a w g' :=by
 unfold frzTgt;split
 ·exact h.frzI _
 ·exact h.frzI _
 ·exact⟨g,h⟩
theorem frzArgs_ok:∀(ps:List Par) (os:List Operand) (st:St) (g:G),TInv X D st ρ a w g->∃g',TInv X D (frzArgs ps os st) ρ a w g'
 | [],os,st,g,h=>⟨g,by cases os<;>exact h⟩
 | p::ps,[],st,g,h=>⟨g,by cases p<;>exact h⟩
 | p::ps,o::os,st,g,h=>by
  cases p with
  | val agg t=>
   obtain⟨g1,h1⟩:=frzOps_ok [o] st g h;exact frzArgs_ok ps os _ g1 h1
  | _=>exact frzArgs_ok ps os st g h
theorem preFrz_ok {P:Program}{ss:List Sig}(o:Oper)(h:TInv X D st ρ a w g):∃g',TInv X D (preFrz P ss st o) ρ a w g' :=by
 unfold preFrz;split
 ·split
  ·exact frzOps_ok _ _ _ h
  ·exact⟨g,h⟩
 ·split
  ·split
   ·obtain⟨g1,h1⟩:=frzTgt_ok (st.val _) h;exact frzOps_ok _ _ _ h1
   ·exact⟨g,h⟩
  ·split
   ·split
    ·split
     ·exact frzArgs_ok _ _ _ _ h
     ·exact⟨g,h⟩
    ·exact⟨g,h⟩
   ·exact⟨g,h⟩
  ·exact⟨g,h⟩
 ·split
  ·split
   ·split
    ·exact⟨g,h⟩
    ·obtain⟨g1,h1⟩:=h.frzI _;exact frzOps_ok _ _ _ h1
   ·exact⟨g,h⟩
  ·exact⟨g,h⟩
 ·exact⟨g,h⟩
end
end Go.Pu
/-
  Own work. The translation is sound: regions, blocks, loops, joins.
-/
namespace Go.Pu
open Go Go.RowKit
set_option linter.unusedVariables false
abbrev NoD:Nat->Prop:=fun _=>False
def OpLaw (X:Ctx)(Γ:List FE)(ss:List Sig):Prop:=∀(D:Nat->Prop) (st:St) (o:Oper) (s:Step) (nr:Bool),dstOk X.N o=true->stepOp X.P ss st o= .ok s->(nr=true->nrOk ss st o=true)->(isQ o.op=true->QStep X D Γ st o s)/\(isQ o.op=false->WStep X D Γ nr st o s)
def JumpLaw (X:Ctx):Prop:=∀(H st:St) (t:Ty) (xs:List At) (ρ0 ρ1:Env) (a:Act) (w:World) (g:G),jump H st= .ok (t,xs)->TInv X NoD st (ρ0++ρ1) a w g->H.ts=ρ0.map V.t++[t]->∃g',TInv X NoD H (ρ0++[⟨t,(mkv t (xs.map (At.get (ρ0++ρ1)))).1⟩]) a w g'
section
variable {D:Nat->Prop} {X:Ctx} {Γ:List FE} {ss:List Sig} {st:St} {ρ:Env} {a:Act} {w:World} {g:G}
theorem evalB_prefix:∀(es:List Ex) (ρ ρ' :Env),evalB Γ es ρ=some ρ'→∃ρ1,ρ' =ρ++ρ1
 | [],ρ,ρ',h=>⟨[],by rw[evalB_nil h,List.append_nil]⟩
 | e::es,ρ,ρ',h=>by
  obtain⟨v,_,h⟩:=evalB_cons h;obtain⟨ρ1,rfl⟩:=evalB_prefix es _ _ h;exact⟨v::ρ1,by simp⟩
theorem binds_den {c:List Ty}{r:Ty}{s:Stm}{o:Out c r}:∀(es:List (Ex×Ty)) (ρ:Env),(binds es s).den Γ c r ρ=some o->∃ρ',evalB Γ (es.map (·.1)) ρ=some ρ'∧s.den Γ c r ρ' =some o
 | [],ρ,h=>⟨ρ,rfl,h⟩
 | e::es,ρ,h=>by
  simp only[binds,Stm.den]at h;rw[Ex.den_eq,Option.bind_eq_some_iff]at h;obtain⟨v,hv,h⟩:=h;obtain⟨ρ',h1,h2⟩:=binds_den es _ h;exact⟨ρ',by simp only[List.map_cons,evalB,hv,Option.bind_some];exact h1,h2⟩
theorem getD_some {t:Array Value}{s:Nat}{v:Value}(h:t.getD s undef=v)(hv:v≠undef):t[s]? =some v:=by
 rw[Array.getD_eq_getD_getElem?]at h;cases hs:t[s]? with
 | none=>rw[hs]at h;exact absurd h.symm hv
 | some u=>rw[hs]at h;simp only[Option.getD_some]at h;rw[h]
theorem guard_ok (hi:TInv X D st ρ a w g){ops:Array Oper}{o:Oper}{gd:Gd}(h:guardOf ops st o.guard= .ok gd):
 (gd= .yes->Region.wanted o (yielded ops a.tmps)=true)/\(gd= .no->Region.wanted o (yielded ops a.tmps)=false)/\
 ∀t x,gd= .ask t x->∀b,(x.get ρ).bool=b->TInv X D (st.put t (.c (.v (.bool b)))) ρ a w g:=by
 unfold Region.wanted;cases hg:o.guard with
 | none=>
  rw[hg]at h;simp only[guardOf,Except.ok.injEq]at h;subst h;exact⟨fun _=>rfl,(fun h=>(by cases h)),(fun _ _ h=>(by cases h))⟩
 | some jw=>
  obtain⟨j,want⟩:=jw;rw[hg]at h;simp only[guardOf]at h;cases ht:(ops[j]?).bind (·.dst)with
  | none=>rw[ht]at h;cases h
  | some t=>
   rw[ht]at h;simp only at h;have hy:yielded ops a.tmps j=match a.tmps[t]? with | some (.bool b)=>some b | _=>none:=by
    unfold yielded;rw[ht];rfl
   have hs:=hi.inv.slot t;have hval:∀b,a.tmps.getD t undef= .bool b->yielded ops a.tmps j=some b:=fun b hb=>by
    rw[hy,getD_some hb (by intro e;cases e)]
   split at h
   ·rename_i b hb;rw[hb]at hs;have hv:a.tmps.getD t undef= .bool b:=by
     have:CRep w g (.bool b) (a.tmps.getD t undef):=by simpa[SV.enc,SC.enc,At.get,V.c,PRep]using hs
     exact crep_bool this
    have hy:=hval b hv;simp only[Except.ok.injEq]at h;subst h;refine⟨fun h=> ?_,fun h=> ?_,fun _ _ h=> ?_⟩
    ·split at h
     ·rename_i hbw;simp only[hy];simpa using hbw
     ·cases h
    ·split at h
     ·cases h
     ·rename_i hbw;simp only[hy];simpa using hbw
    ·split at h<;>cases h
   ·rename_i hb;rw[hb]at hs;have hv:a.tmps.getD t undef=undef:=hs;have hy:yielded ops a.tmps j=none:=by
     rw[hy];cases hq:a.tmps[t]? with
     | none=>rfl
     | some u=>
      have:u=undef:=by rw[Array.getD_eq_getD_getElem?,hq]at hv;exact hv
      subst this;rfl
    simp only[Except.ok.injEq]at h;subst h;exact⟨fun h=>(by cases h),fun _=>(by simp[hy]),fun _ _ h=>(by cases h)⟩
   ·rename_i q hb;obtain⟨ty,hty,h⟩:=ok_bind h;split at h
    ·rename_i hq;subst hq;simp only[Except.ok.injEq]at h;subst h;refine⟨fun h=>(by cases h),fun h=>(by cases h),fun t' x h b hbv=> ?_⟩;simp only[Gd.ask.injEq]at h;obtain⟨e1,e2⟩:=h;subst e1 e2;rw[hb]at hs;have hval:a.tmps.getD t undef= .bool b:=by
      have:CRep w g (V.c ((At.r q).get ρ)) (a.tmps.getD t undef):=by simpa[SV.enc,SC.enc,PRep]using hs
      rw[bool_get hi hty,hbv]at this;exact crep_bool this
     refine⟨hi.typ,⟨hi.inv.size,hi.inv.nodef,hi.inv.ok,fun s=> ?_,hi.inv.row⟩,hi.fixd,hi.dirt⟩;show PRep X.P w g (((st.put t (.c (.v (.bool b)))).slot s).enc ρ) (a.tmps.getD s undef);rcases St.slot_put st t s (.c (.v (.bool b)))with⟨e,rfl⟩ | ⟨e,hs'⟩ | e
     ·rw[e,hval];simp only[SV.enc,SC.enc,At.get,V.c,PRep];exact .bool _
     ·rw[e];exact hi.inv.slot s
     ·rw[e];trivial
    ·cases h
   ·cases h
def Behind (D:Nat->Prop)(X:Ctx)(Γ:List FE){c:List Ty}{r:Ty}(o:Out c r)(ρ:Env)(k:St->M Stm)(a:Act)(w:World):Prop:=
 ∃st' ρ1 g' s',k st' = .ok s'∧TInv X D st' (ρ++ρ1) a w g'∧s'.den Γ c r (ρ++ρ1)=some o
theorem cGd_ok (hop:OpLaw X Γ ss){ops:Array Oper}{op:Oper}{q nr:Bool}(hqq:q=true->isQ op.op=true){k:St->M Stm}{s:Stm}{c:List Ty}{r:Ty}{o:Out c r}{K:Act->World->Prop}
 (h:cGd X.P ss X.N ops op nr st k= .ok s) (hi:TInv X D st ρ a w g) (hd:s.den Γ c r ρ=some o)
 (hk:∀a' w',Behind D X Γ o ρ k a' w'→K a' w'):Lex1 D X.P ops op q nr K a w:=by
 unfold cGd at h;obtain⟨gd,hg,h⟩:=ok_bind h;obtain⟨g1,g2,_⟩:=guard_ok hi hg;split at h
 ·have hwn:=g1 rfl;have key:∃st1 g1,TInv X D st1 ρ a w g1/\cStep1 X.P ss X.N nr st1 op k= .ok s:=by
   unfold cStep at h;split at h
   ·obtain⟨g1,h1⟩:=preFrz_ok (P:=X.P) (ss:=ss) op hi;rw[fSt_eq]at h;exact⟨_,g1,h1,h⟩
   ·exact⟨st,g,hi,h⟩
  clear h hi g1 g2
  obtain⟨st,g,hi,h⟩:=key;unfold cStep1 at h;split at h
  ·cases h
  ·rename_i hnr;split at h
   ·cases h
   ·rename_i hst;obtain⟨x,hx,h⟩:=ok_bind h;obtain⟨s1,hs1,h⟩:=ok_bind h;rw[fSt_eq]at hs1;simp only[Except.ok.injEq]at h;subst h;obtain⟨ρ',hev,hd'⟩:=binds_den _ _ hd;obtain⟨ρ1,rfl⟩:=evalB_prefix _ _ _ hev;simp only[Bool.not_eq_true',Bool.not_eq_false,Bool.and_eq_true]at hst;obtain⟨⟨hw,hk0⟩,hdst⟩:=hst;obtain⟨o1,o2⟩:=hop D st op x nr hdst hx (fun e=>by simpa[e]using hnr);unfold Lex1;by_cases hq:q=true
    ·rw[if_pos hq];obtain⟨v,h1,g',h2⟩:=o1 (hqq hq) ρ _ a w g hi hw hev;exact⟨v,.inl ⟨hwn,h1⟩,hk _ _ ⟨_,ρ1,g',s1,hs1,h2,hd'⟩⟩
    ·rw[if_neg hq,if_pos hwn];by_cases hq:isQ op.op=true
     ·obtain⟨v,h1,g',h2⟩:=o1 hq ρ _ a w g hi hw hev;unfold Oper.wp;rw[h1 w (fun _=>RelD.refl _ _)];exact⟨fun _=>RelD.refl _ _,hk _ _ ⟨_,ρ1,g',s1,hs1,h2,hd'⟩⟩
     refine Oper.wp_mono (fun a' w' ⟨h1,g',h2⟩=>⟨h1,hk _ _ ⟨_,ρ1,g',s1,hs1,h2,hd'⟩⟩) (o2 (by simpa using hq) ρ _ a w g hi hw hk0 hev)
 ·have hwn:=g2 rfl;split at h
  ·rename_i d hdst;split at h
   ·rename_i hlt;have hi' :TInv X D (st.put d .und) ρ (a.put op.dst undef) w g:=by
     rw[hdst];exact hi.put (by simpa using hlt) rfl
    have hb:Behind D X Γ o ρ k (a.put op.dst undef) w:=⟨_,[],g,s,h,by rw[List.append_nil];exact hi',by rw[List.append_nil];exact hd⟩;unfold Lex1;split
    ·exact⟨undef,.inr ⟨hwn,rfl⟩,hk _ _ hb⟩
    ·rw[if_neg (by rw[hwn];exact Bool.false_ne_true)];exact hk _ _ hb
   ·cases h
  ·cases h
 ·cases h
theorem cOp_ok (hop:OpLaw X Γ ss){ops:Array Oper}{op:Oper}{q nr:Bool}(hqq:q=true->isQ op.op=true){k:St->M Stm}{s:Stm}{c:List Ty}{r:Ty}{o:Out c r}{K:Act->World->Prop}
 (h:cOp X.P ss X.N ops op nr st k= .ok s) (hi:TInv X D st ρ a w g) (hd:s.den Γ c r ρ=some o)
 (hk:∀a' w',Behind D X Γ o ρ k a' w'→K a' w'):Lex1 D X.P ops op q nr K a w:=by
 unfold cOp at h;obtain⟨gd,hg,h⟩:=ok_bind h;have g3:=(guard_ok hi hg).2.2;split at h
 ·rename_i t x;obtain⟨s1,h1,h⟩:=ok_bind h;obtain⟨s2,h2,h⟩:=ok_bind h;simp only[Except.ok.injEq]at h;subst h;simp only[Stm.den]at hd;cases hb:(x.get ρ).bool with
  | true=>rw[hb]at hd;exact cGd_ok hop hqq h1 (g3 t x rfl true hb) hd hk
  | false=>rw[hb]at hd;exact cGd_ok hop hqq h2 (g3 t x rfl false hb) hd hk
 ·exact cGd_ok hop hqq h hi hd hk
theorem behind_trans {c:List Ty}{r:Ty}{o:Out c r}{ρ1:Env}{k:St->M Stm}(h:Behind D X Γ o (ρ++ρ1) k a w):Behind D X Γ o ρ k a w:=by
 obtain⟨st',ρ2,g',s',h1,h2,h3⟩:=h;exact⟨st',ρ1++ρ2,g',s',h1,by rw[<-List.append_assoc];exact h2,by rw[<-List.append_assoc];exact h3⟩
theorem cOps_ok (hop:OpLaw X Γ ss){ops:Array Oper}{c:List Ty}{r:Ty}{o:Out c r}{Q:Act->World->Prop}{k:St->M Stm}:∀(l:List (Oper×Bool)) (st:St) (s:Stm) (ρ:Env) (a:Act) (w:World) (g:G),
 cOps X.P ss X.N ops l st k= .ok s->TInv X D st ρ a w g->s.den Γ c r ρ=some o->(∀a' w',Behind D X Γ o ρ k a' w'→Q a' w')->LexL D X.P ops Q l a w
 | [],st,s,ρ,a,w,g,h,hi,hd,hk=>by
  unfold LexL;exact hk _ _ ⟨st,[],g,s,h,by rw[List.append_nil];exact hi,by rw[List.append_nil];exact hd⟩
 | (op,nr)::rest,st,s,ρ,a,w,g,h,hi,hd,hk=>by
  simp only[cOps]at h;show Lex1 _ _ _ _ _ _ _ _ _;refine cOp_ok hop id h hi hd fun a' w' hb=> ?_
  obtain⟨st',ρ1,g',s',h1,h2,h3⟩:=hb;exact cOps_ok hop rest st' s' _ a' w' g' h1 h2 h3 fun a2 w2 hb2=>hk _ _ (behind_trans hb2)
theorem altS_den {s1 s2:Stm}{c:List Ty}{r:Ty}{o:Out c r}(h:(altS s1 s2).den Γ c r ρ=some o):s1.den Γ c r ρ=some o/\s2.den Γ c r ρ=some o:=by
 unfold altS at h;split at h
 ·rename_i e;exact⟨h,e▸h⟩
 ·unfold Stm.den at h;exact both_some h
theorem cTree_ok (hop:OpLaw X Γ ss){ops:Array Oper}{sl:List Nat}{c:List Ty}{r:Ty}{o:Out c r}{Q:Act->World->Prop}{k:St->M Stm}:∀(t:Sch) (st:St) (s:Stm) (ρ:Env) (a:Act) (w:World) (g:G),
 cTree X.P ss X.N ops sl t st k= .ok s->TInv X D st ρ a w g->s.den Γ c r ρ=some o->(∀a' w',Behind D X Γ o ρ k a' w'→Q a' w')->LexT D X.P .any ops sl Q t a w
 | .done,st,s,ρ,a,w,g,h,hi,hd,hk=>by
  unfold LexT;exact hk _ _ ⟨st,[],g,s,h,by rw[List.append_nil];exact hi,by rw[List.append_nil];exact hd⟩
 | .op i t,st,s,ρ,a,w,g,h,hi,hd,hk=>by
  simp only[cTree]at h;unfold LexT;cases ho:ops[i]? with
  | none=>rw[ho]at h;cases h
  | some op=>
   rw[ho]at h;simp only at h ⊢;refine cOp_ok hop qAt_q h hi hd fun a' w' hb=> ?_
   obtain⟨st',ρ1,g',s',h1,h2,h3⟩:=hb;exact cTree_ok hop t st' s' _ a' w' g' h1 h2 h3 fun a2 w2 hb2=>hk _ _ (behind_trans hb2)
 | .alt i t rest,st,s,ρ,a,w,g,h,hi,hd,hk=>by
  simp only[cTree]at h;unfold LexT;cases ho:ops[i]? with
  | none=>rw[ho]at h;cases h
  | some op=>
   rw[ho]at h;simp only at h ⊢;obtain⟨s1,h1,h⟩:=ok_bind h;obtain⟨s2,h2,h⟩:=ok_bind h;simp only[Except.ok.injEq]at h;subst h;obtain⟨d1,d2⟩:=altS_den hd;refine⟨cOp_ok hop qAt_q h1 hi d1 fun a' w' hb=> ?_,cTree_ok hop rest st s2 ρ a w g h2 hi d2 hk⟩;obtain⟨st',ρ1,g',s',q1,q2,q3⟩:=hb;exact cTree_ok hop t st' s' _ a' w' g' q1 q2 q3 fun a2 w2 hb2=>hk _ _ (behind_trans hb2)
theorem drew_inv (hi:TInv X D st ρ a w g):TInv X D st ρ a { w with drawn:=w.drawn+1 } g:=by
 have keep:∀{q v},CRep w g q v->CRep { w with drawn:=w.drawn+1 } g q v:=fun {q v} h=>by
  induction h with
  | int k z=>exact .int k z
  | bool b=>exact .bool b
  | nil=>exact .nil
  | gone v=>exact .gone v
  | ro0 rg a cap=>exact .ro0 rg a cap
  | ro rg els b off n cap s f hn hc hm hS hs hsz hcell hrep ih=>exact .ro rg els b off n cap s f hn hc hm hS hs hsz hcell ih
  | rp rg cells b off f hS hcell hrep ih=>exact .rp rg cells b off f hS hcell ih
  | hd l v hv=>exact .hd l v hv
  | fn f caps vs hs hrep ih=>exact .fn f caps vs hs ih
  | sub l s lo n v hv=>exact .sub l s lo n v hv
  | both x y v _ _ ih1 ih2=>exact .both x y v ih1 ih2
 have pkeep:∀{q v},PRep X.P w g q v->PRep X.P { w with drawn:=w.drawn+1 } g q v:=fun {q v} h=>by
  have hagg:∀{xs v},AggRep w g xs v->AggRep { w with drawn:=w.drawn+1 } g xs v:=fun {xs v} ⟨vs,h1,h2,h3⟩=>⟨vs,h1,h2,fun k x hx=>by obtain⟨u,hu,hr⟩:=h3 k x hx;exact⟨u,hu,keep hr⟩⟩
  cases q with
  | c x=>exact keep h
  | agg xs=>exact hagg h
  | ad l e i k=>exact h
  | ra rg cells=>obtain⟨b,off,f,h1,h2,h3⟩:=h;exact⟨b,off,f,h1,h2,fun k x hx=>⟨(h3 k x hx).1,keep (h3 k x hx).2⟩⟩
  | tup rs=>
   obtain⟨vs,h1,h2,h3⟩:=h;refine⟨vs,h1,h2,fun k r hr=> ?_⟩;obtain⟨u,hu,hrr⟩:=h3 k r hr;refine⟨u,hu,?_⟩;cases r with
   | one x=>exact keep hrr
   | agg xs=>exact hagg hrr
  | und=>exact h
  | junk=>trivial
 have hok:=hi.inv.ok;refine⟨hi.typ,⟨hi.inv.size,hi.inv.nodef,⟨hok.chg.trans ⟨rfl,rfl,rfl,Nat.le_refl _,fun _ _ _=>rfl⟩,hok.base,hok.S,hok.own⟩,fun s=>pkeep (hi.inv.slot s),fun l row hl=> ?_⟩,hi.fixd,hi.dirt⟩;have:=hi.inv.row l row hl;cases this with
 | nil nl e hd=>exact .nil nl e hd
 | zero e a hd=>exact .zero e a hd
 | full bx nl e els b base n cap cs f h=>exact .full bx nl e els b base n cap cs f ⟨h.hd,h.own,h.heap,h.len,h.hcap,h.hmax,h.fit,h.pos,h.size,h.cell,fun i c k x q1 q2=>keep (h.rep i c k x q1 q2),h.nonil⟩
 | mp kvs b clk es hd own heap hes=>exact .mp kvs b clk es hd own heap hes
def BehindE (X:Ctx)(Γ:List FE){c:List Ty}{r:Ty}(o:Out c r)(ρ:Env)(k:Exit->St->M Stm)(e:Exit)(a:Act)(w:World):Prop:=Behind NoD X Γ o ρ (k e) a w
theorem region_ok (hm:X.P.follows .mixedOrders=true)(hop:OpLaw X Γ ss){an:Ann}(hN:an.N=X.N){id:Nat}{ops:Array Oper}{draw:Bool}{k:Exit->St->M Stm}{s:Stm}{c:List Ty}{r:Ty}{o:Out c r}
 (h:cRegion X.P ss an id ops draw st (k .normal)= .ok s) (hi:TInv X NoD st ρ a w g) (hd:s.den Γ c r ρ=some o):(Code.region id ops draw).wp X.P (BehindE X Γ o ρ k) a w:=by
 unfold cRegion at h;rw[hN]at h;split at h
 ·rename_i hdr;subst hdr;split at h
  ·rename_i l hl;split at h
   ·rename_i hord;split at h
    ·rename_i r hdl;split at h
     ·rename_i hde;have hde:st.dirty=[]:=by simpa using hde
      let D:Nat->Prop:=fun b=>∃q,q≠[]/\g.own b=some (r,q)
      have hiD:TInv X D { st with dirty:=[(r,true)] } ρ a w g:=
       ⟨hi.typ,hi.inv,hi.fixd,fun b ⟨q,h1,h2⟩=>⟨(r,true),q,by simp,h2,by simp[h1]⟩,fun r' b q hq ho hne=>by
        simp only[List.cons.injEq,Prod.mk.injEq,and_true]at hq;subst hq;exact⟨q,hne,ho⟩⟩
      refine wp_region_lex (D:=D) l hm hord (fun _ _ h=>h) (cOps_ok hop _ _ s ρ a _ g h (drew_inv hiD) hd fun a' w' hb=> ?_);obtain⟨st',ρ1,g',s',h1,h2,h3⟩:=hb;exact⟨{ st' with dirty:=[] },ρ1,g',s',h1,⟨h2.typ,h2.inv,h2.fixd,fun b hb=>hb.elim,fun r b q hq=>by cases hq⟩,h3⟩
     ·cases h
    ·cases h
    ·exact wp_region_lex (D:=NoD) l hm hord (fun _ _ h=>h) (cOps_ok hop _ st s ρ a _ g h (drew_inv hi) hd fun a' w' hb=>hb)
   ·cases h
  ·split at h
   ·rename_i t ht;split at h
    ·rename_i hord;exact wp_region_tree (D:=NoD) t.2 hm hord (fun _ _ h=>h) (cTree_ok hop t.2 st s ρ a _ g h (drew_inv hi) hd fun a' w' hb=>hb)
    ·cases h
   ·cases h
 ·rename_i hdr;have hdr:draw=false:=by simpa using hdr
  subst hdr;exact wp_region_text (D:=NoD) (fun _ _ h=>h) (cOps_ok hop _ st s ρ a _ g h hi hd fun a' w' hb=>hb)
end
end Go.Pu
/-
  Own work. The translation of code is sound.
-/
namespace Go.Pu
open Go Go.RowKit
set_option linter.unusedVariables false
section
variable {X:Ctx} {Γ:List FE} {ss:List Sig} {st:St} {ρ:Env} {a:Act} {w:World} {g:G}
theorem next_den {t t' :Ty}{c:List Ty}{r:Ty}{xs:List At}{o:Out (t' ::c) r}(h:(Stm.next t xs).den Γ (t' ::c) r ρ=some o):∃e:t=t',o= .inl (e▸(mkv t (xs.map (At.get ρ))).1):=by
 unfold Stm.den at h;split at h
 ·rename_i e;exact⟨e,(Option.some.inj h).symm⟩
 ·cases h
theorem lift_den {t' :Ty}{c:List Ty}{r:Ty}{s:Stm}{o:Out (t' ::c) r}(h:(Stm.lift s).den Γ (t' ::c) r ρ=some o):∃o',o= .inr o'∧s.den Γ c r ρ=some o' :=by
 unfold Stm.den at h;rw[Option.map_eq_some_iff]at h;obtain⟨o',h1,h2⟩:=h;exact⟨o',h2.symm,h1⟩
theorem cJoin_ok (hj:JumpLaw X){j:Option (Ty×List (Nat×SV)×List RK)}{f:(Exit->St->M Stm)->M Stm}{gk:St->M Stm}{k:Exit->St->M Stm}{s:Stm}{c:List Ty}{r:Ty}{o:Out c r}{C:Code}
 (h:cJoin j st f gk k= .ok s) (hi:TInv X NoD st ρ a w g) (hd:s.den Γ c r ρ=some o)
 (hf:∀(k' :Exit->St->M Stm) (s' :Stm),f k' = .ok s'→∀(c' :List Ty) (o' :Out c' r),s'.den Γ c' r ρ=some o'→C.wp X.P (BehindE X Γ o' ρ k') a w):C.wp X.P (BehindE X Γ o ρ (thenK gk k)) a w:=by
 unfold cJoin at h;cases j with
 | none=>exact hf _ s h c o hd
 | some j=>
  simp only at h;obtain⟨s1,h1,h⟩:=ok_bind h;obtain⟨s2,h2,h⟩:=ok_bind h;simp only[Except.ok.injEq]at h;subst h;simp only[Stm.den,joinO,Option.bind_eq_some_iff]at hd;obtain⟨o',hd1,hd2⟩:=hd;refine Code.wp_mono (fun e a' w' hb=> ?_) (hf _ s1 h1 (j.1::c) o' hd1);obtain⟨st',ρ1,g',s',q1,q2,q3⟩:=hb;have other:(∀s'',k e st' = .ok s''→s' = .lift s''→thenK gk k e=k e->BehindE X Γ o ρ (thenK gk k) e a' w'):=fun s'' hk hs ht=>by
   subst hs;obtain⟨o'',e1,e2⟩:=lift_den q3;subst e1;simp only[Option.some.injEq]at hd2;subst hd2;exact⟨st',ρ1,g',s'',by rw[ht];exact hk,q2,e2⟩
  cases e with
  | normal=>
   simp only[toJoin]at q1;obtain⟨⟨t,xs⟩,hx,q1⟩:=ok_bind q1;simp only[Except.ok.injEq]at q1;subst q1;obtain⟨e1,e2⟩:=next_den q3;subst e1 e2;simp only at hd2;obtain⟨g2,hi2⟩:=hj _ _ _ _ ρ ρ1 a' w' g' hx q2 (by show st.ts++_=_;rw[hi.typ]);exact⟨headSt st j,_,g2,s2,h2,hi2,hd2⟩
  | exit id=>simp only[toJoin]at q1;obtain⟨s'',hk,q1⟩:=ok_bind q1;simp only[Except.ok.injEq]at q1;exact other s'' hk q1.symm rfl
  | goto l=>simp only[toJoin]at q1;obtain⟨s'',hk,q1⟩:=ok_bind q1;simp only[Except.ok.injEq]at q1;exact other s'' hk q1.symm rfl
  | ret=>simp only[toJoin]at q1;obtain⟨s'',hk,q1⟩:=ok_bind q1;simp only[Except.ok.injEq]at q1;exact other s'' hk q1.symm rfl
  | panic ch=>simp only[toJoin]at q1;obtain⟨s'',hk,q1⟩:=ok_bind q1;simp only[Except.ok.injEq]at q1;exact other s'' hk q1.symm rfl
  | outgrown=>simp only[toJoin]at q1;obtain⟨s'',hk,q1⟩:=ok_bind q1;simp only[Except.ok.injEq]at q1;exact other s'' hk q1.symm rfl
theorem jump_ty {H:St}{t u:Ty}{xs:List At}(hx:jump H st= .ok (t,xs))(hl:H.ts.getLast? =some u):t=u:=by
 unfold jump at hx;rw[hl]at hx;simp only at hx;split at hx
 ·cases hx
 ·split at hx
  ·cases hx
  ·split at hx
   ·split at hx
    ·cases hx
    ·split at hx
     ·simp only[Except.ok.injEq,Prod.mk.injEq]at hx;exact hx.1.symm
     ·cases hx
   ·cases hx
   ·cases hx
theorem cLoop_ok (hj:JumpLaw X){an:Ann}{id:Nat}{rec:St->(Exit->St->M Stm)->M Stm}{k:Exit->St->M Stm}{s:Stm}{c:List Ty}{r:Ty}{o:Out c r}{b:Code}
 (h:cLoop an id rec st k= .ok s) (hi:TInv X NoD st ρ a w g) (hd:s.den Γ c r ρ=some o)
 (hb : ∀(st' : St) (k' : Exit → St → M Stm) (s' : Stm), rec st' k' = .ok s' → ∀(c' : List Ty) (o' : Out c' r) (ρ' : Env) (a' : Act) (w' : World) (g' : G), TInv X NoD st' ρ' a' w' g' → s'.den Γ c' r ρ' = some o' → b.wp X.P (BehindE X Γ o' ρ' k') a' w') :
 (Code.loop b).wp X.P (Exit.inBlock id (BehindE X Γ o ρ k)) a w:=by
 unfold cLoop at h;split at h
 case h_2=>cases h
 rename_i hd0 hh;obtain⟨⟨t,xs⟩,hx,h⟩:=ok_bind h;obtain⟨s1,h1,h⟩:=ok_bind h;simp only[Except.ok.injEq]at h;subst h;simp only[Stm.den]at hd;rw[loop_iff]at hd;obtain⟨n,hn⟩:=hd;have hts:(headSt st hd0).ts=ρ.map V.t++[hd0.1]:=by show st.ts++_=_;rw[hi.typ]
 have ht:t=hd0.1:=by
  exact jump_ty hx (by show(st.ts++[hd0.1]).getLast? =_;simp)
 subst ht;have key:∀(n:Nat) (x:(hd0.1).den) (a:Act) (w:World) (g:G),TInv X NoD (headSt st hd0) (ρ++[⟨hd0.1,x⟩]) a w g->
  iter (fun x:(hd0.1).den=>s1.den Γ (hd0.1::c) r (ρ++[⟨hd0.1,x⟩])) n x=some o->Code.rounds X.P b (Exit.inBlock id (BehindE X Γ o ρ k)) n a w:=by
  intro n
  induction n with
  | zero=>intro x a w g _ hn;cases hn
  | succ n ih=>
   intro x a w g hi hn;simp only[iter]at hn;cases hf:s1.den Γ (hd0.1::c) r (ρ++[⟨hd0.1,x⟩])with
   | none=>rw[hf]at hn;cases hn
   | some o' =>
    rw[hf]at hn;refine Code.wp_mono (fun e a' w' hb' => ?_) (hb _ _ s1 h1 (hd0.1::c) o' _ a w g hi hf);obtain⟨st',ρ1,g',s',q1,q2,q3⟩:=hb';rw[List.append_assoc]at q2 q3;have other:∀(e' :Exit) (s'' :Stm),k e' st' = .ok s''→s' = .lift s''→BehindE X Γ o ρ k e' a' w' :=fun e' s'' hk hs=>by
     subst hs;obtain⟨o'',e1,e2⟩:=lift_den q3;subst e1;simp only[Option.some.injEq]at hn;subst hn;exact⟨st',_,g',s'',hk,q2,e2⟩
    cases e with
    | normal=>
     simp only[endLoop]at q1;obtain⟨⟨t,ys⟩,hx',q1⟩:=ok_bind q1;simp only[Except.ok.injEq]at q1;subst q1;obtain⟨e1,e2⟩:=next_den q3;subst e1 e2;obtain⟨g2,hi2⟩:=hj _ _ _ _ ρ _ a' w' g' hx' q2 (by show st.ts++_=_;exact hts);exact ih _ a' w' g2 hi2 hn
    | exit id' =>
     simp only[endLoop]at q1;obtain⟨s'',hk,q1⟩:=ok_bind q1;simp only[Except.ok.injEq]at q1;have:=other _ s'' hk q1.symm;show Exit.inBlock id (BehindE X Γ o ρ k) (.exit id') a' w';unfold Exit.inBlock;split at this
     ·rename_i e0;simp only[e0,if_true];exact this
     ·rename_i e0;simp only[e0,if_false];exact this
    | goto l=>simp only[endLoop]at q1;obtain⟨s'',hk,q1⟩:=ok_bind q1;simp only[Except.ok.injEq]at q1;exact other _ s'' hk q1.symm
    | ret=>simp only[endLoop]at q1;obtain⟨s'',hk,q1⟩:=ok_bind q1;simp only[Except.ok.injEq]at q1;exact other _ s'' hk q1.symm
    | panic ch=>simp only[endLoop]at q1;obtain⟨s'',hk,q1⟩:=ok_bind q1;simp only[Except.ok.injEq]at q1;exact other _ s'' hk q1.symm
    | outgrown=>simp only[endLoop]at q1;obtain⟨s'',hk,q1⟩:=ok_bind q1;simp only[Except.ok.injEq]at q1;exact other _ s'' hk q1.symm
 obtain⟨g2,hi2⟩:=hj _ _ _ _ ρ [] a w g hx (by rw[List.append_nil];exact hi) hts;rw[List.append_nil]at hi2;exact wp_loop_rounds n (key n _ a w g2 hi2 hn)
theorem thenK_self (k:Exit->St->M Stm):thenK (k .normal) k=k:=by
 funext e st;cases e<;>rfl
theorem endBlock_in {c:List Ty}{r:Ty}{o:Out c r}{id:Nat}{k:Exit->St->M Stm}(e:Exit)(h:BehindE X Γ o ρ (endBlock id k) e a w):Exit.inBlock id (BehindE X Γ o ρ k) e a w:=by
 cases e with
 | exit id' =>
  unfold Exit.inBlock;obtain⟨st',ρ1,g',s',q1,q2,q3⟩:=h;simp only[endBlock]at q1;split at q1
  ·rename_i e0;simp only[e0,if_true];exact⟨st',ρ1,g',s',q1,q2,q3⟩
  ·rename_i e0;simp only[e0,if_false];exact⟨st',ρ1,g',s',q1,q2,q3⟩
 | _=>exact h
theorem code_ok (hm:X.P.follows .mixedOrders=true)(hop:OpLaw X Γ ss)(hj:JumpLaw X){an:Ann}(hN:an.N=X.N){r:Ty}:∀(C:Code) (st:St) (k:Exit->St->M Stm) (s:Stm),cCode X.P ss an C st k= .ok s->
 ∀(c:List Ty) (o:Out c r) (ρ:Env) (a:Act) (w:World) (g:G),TInv X NoD st ρ a w g->s.den Γ c r ρ=some o->C.wp X.P (BehindE X Γ o ρ k) a w
 | .skip,st,k,s,h,c,o,ρ,a,w,g,hi,hd=>wp_skip ⟨st,[],g,s,h,by rw[List.append_nil];exact hi,by rw[List.append_nil];exact hd⟩
 | .exit id,st,k,s,h,c,o,ρ,a,w,g,hi,hd=>wp_exit ⟨st,[],g,s,h,by rw[List.append_nil];exact hi,by rw[List.append_nil];exact hd⟩
 | .ret,st,k,s,h,c,o,ρ,a,w,g,hi,hd=>wp_ret ⟨st,[],g,s,h,by rw[List.append_nil];exact hi,by rw[List.append_nil];exact hd⟩
 | .region id ops draw,st,k,s,h,c,o,ρ,a,w,g,hi,hd=>region_ok hm hop hN h hi hd
 | .seq A B,st,k,s,h,c,o,ρ,a,w,g,hi,hd=>by
  simp only[cCode]at h;refine wp_seq (Code.wp_mono (fun e a' w' hb=> ?_) (cJoin_ok hj (C:=A) h hi hd fun k' s' hs' c' o' hd' =>code_ok hm hop hj hN A st k' s' hs' c' o' ρ a w g hi hd'));cases e with
  | normal=>
   obtain⟨st',ρ1,g',s',q1,q2,q3⟩:=hb;exact Code.wp_mono (fun e a2 w2 hb2=>behind_trans hb2) (code_ok hm hop hj hN B st' k s' q1 c o _ a' w' g' q2 q3)
  | _=>exact hb
 | .cond x A B,st,k,s,h,c,o,ρ,a,w,g,hi,hd=>by
  simp only[cCode]at h;obtain⟨y,hy,h⟩:=ok_bind h;obtain⟨y1,y2⟩:=boolOf_ok hy;have hv:=val_bool hi y1 y2;split at h
  ·exact wp_cond_true (by rw[hv];rfl) (code_ok hm hop hj hN A st k s h c o ρ a w g hi hd)
  ·exact wp_cond_false (by rw[hv];rfl) (code_ok hm hop hj hN B st k s h c o ρ a w g hi hd)
  ·obtain⟨s1,h1,h⟩:=ok_bind h;obtain⟨s2,h2,h⟩:=ok_bind h;simp only[Except.ok.injEq]at h;subst h;simp only[Stm.den]at hd;refine wp_cond_split hv (fun hb=> ?_) (fun hb=> ?_)
   ·rw[hb]at hd;exact code_ok hm hop hj hN A st k s1 h1 c o ρ a w g hi hd
   ·rw[hb]at hd;exact code_ok hm hop hj hN B st k s2 h2 c o ρ a w g hi hd
 | .block id (.loop b),st,k,s,h,c,o,ρ,a,w,g,hi,hd=>by
  simp only[cCode]at h;have:=cJoin_ok hj (C:= .block id (.loop b)) h hi hd fun k' s' hs' c' o' hd' =>wp_block (cLoop_ok hj hs' hi hd' fun st2 k2 s2 h2 c2 o2 ρ2 a2 w2 g2 hi2 hd2=>code_ok hm hop hj hN b st2 k2 s2 h2 c2 o2 ρ2 a2 w2 g2 hi2 hd2)
  rw[thenK_self]at this;exact this
 | .block id C,st,k,s,h,c,o,ρ,a,w,g,hi,hd=>by
  by_cases hl:∃b,C= .loop b
  ·obtain⟨b,rfl⟩:=hl;simp only[cCode]at h;have:=cJoin_ok hj (C:= .block id (.loop b)) h hi hd fun k' s' hs' c' o' hd' =>wp_block (cLoop_ok hj hs' hi hd' fun st2 k2 s2 h2 c2 o2 ρ2 a2 w2 g2 hi2 hd2=>code_ok hm hop hj hN b st2 k2 s2 h2 c2 o2 ρ2 a2 w2 g2 hi2 hd2)
   rw[thenK_self]at this;exact this
  ·have h:cJoin (findA an.joins id) st (fun k=>cCode X.P ss an C st (endBlock id k)) (k .normal) k= .ok s:=by
    cases C<;>first | exact h | exact absurd ⟨_,rfl⟩ hl
   have:=cJoin_ok hj (C:= .block id C) h hi hd fun k' s' hs' c' o' hd' =>wp_block (Code.wp_mono (fun e a' w' hb=>endBlock_in e hb) (code_ok hm hop hj hN C st _ s' hs' c' o' ρ a w g hi hd'))
   rw[thenK_self]at this;exact this
 | .label _,_,_,_,h,_,_,_,_,_,_,_,_=>by simp[cCode]at h
 | .loop _,_,_,_,h,_,_,_,_,_,_,_,_=>by simp[cCode]at h
 | .goto _,_,_,_,h,_,_,_,_,_,_,_,_=>by simp[cCode]at h
 | .scope _,_,_,_,h,_,_,_,_,_,_,_,_=>by simp[cCode]at h
 | .rangeFunc ..,_,_,_,h,_,_,_,_,_,_,_,_=>by simp[cCode]at h
end
end Go.Pu
/-
  Own work. Jumps: the present state met with a head.
-/
namespace Go.Pu
open Go Go.RowKit
set_option linter.unusedVariables false
set_option linter.unusedSectionVars false
section
variable {X:Ctx} {D:Nat->Prop} {Γ:List FE} {st:St} {ρ:Env} {a:Act} {w:World} {g:G}
theorem TInv.reslot (h:TInv X D st ρ a w g){i:Nat}{sv:SV}(hp:PRep X.P w g (sv.enc ρ) (a.tmps.getD i undef)):TInv X D (st.put i sv) ρ a w g:=by
 refine⟨h.typ,⟨h.inv.size,h.inv.nodef,h.inv.ok,fun s=> ?_,h.inv.row⟩,h.fixd,h.dirt⟩;show PRep X.P w g (((st.put i sv).slot s).enc ρ) (a.tmps.getD s undef);rcases St.slot_put st i s sv with⟨e,rfl⟩ | ⟨e,hs⟩ | e
 ·rw[e];exact hp
 ·rw[e];exact h.inv.slot s
 ·rw[e];trivial
theorem SV.isNil_eq {v:SV}(h:v.isNil=true):v= .c .nil:=by
 unfold SV.isNil at h;split at h
 ·rfl
 ·cases h
theorem SC.isNil_eq {v:SC}(h:v.isNil=true):v= .nil:=by
 unfold SC.isNil at h;split at h
 ·rfl
 ·cases h
theorem set_nil {cs:List SC}{j r:Nat}(hn:(cs.getD j .gone).isNil=true)(q1:g.hdr (r,[])= .slice none 0 0):∀(k:Nat) (q:C),(encL ρ (cs.set j (.h r)))[k]? =some q->∃q0,(encL ρ cs)[k]? =some q0/\∀v,CRep w g q0 v->CRep w g q v:=fun k q hq=>by
 rw[encL_map,List.getElem?_map,Option.map_eq_some_iff]at hq;obtain⟨c,hc1,rfl⟩:=hq;have hkl:k<cs.length:=by have:=(List.getElem?_eq_some_iff.1 hc1).1;simpa using this
 have hck:cs[k]? =some cs[k]:=List.getElem?_eq_getElem hkl;refine⟨cs[k].enc ρ,by rw[encL_map,List.getElem?_map,hck];rfl,fun v hv=> ?_⟩;by_cases hkj:k=j
 ·subst hkj;rw[List.getElem?_set_self hkl]at hc1;cases hc1;have hn:=SC.isNil_eq hn;rw[List.getD,hck]at hn;simp only[Option.getD_some]at hn;rw[hn]at hv;simp only[SC.enc]at hv ⊢;cases hv;exact .hd _ _ q1.symm
 ·rw[List.getElem?_set_ne (Ne.symm hkj),hck]at hc1;cases hc1;exact hv
theorem adoptOne_ok (h:TInv X D st ρ a w g)(x:Ado):∃g',TInv X D (adoptOne st x) ρ a w g' :=by
 cases x with
 | s i e b=>
  simp only[adoptOne];split
  ·rename_i hc;simp only[Bool.and_eq_true]at hc;obtain⟨g',h',q1,_⟩:=h.adoptNew (e:=e) (b:=b) (nl:=true) hc.1;refine⟨g',h'.reslot ?_⟩;have hs:=h.inv.slot i;rw[SV.isNil_eq hc.2]at hs;have hs:CRep w g .nil (a.tmps.getD i undef):=by simpa[SV.enc,SC.enc,PRep]using hs
   have hv:a.tmps.getD i undef= .slice none 0 0:=by
    generalize a.tmps.getD i undef=u at hs;cases hs;rfl
   simp only[SV.enc,SC.enc,PRep];exact .hd _ _ (hv.trans q1.symm)
  ·exact⟨g,h⟩
 | c r j e b=>
  simp only[adoptOne];split
  ·rename_i e0 cs hr;split
   ·rename_i hc;simp only[Bool.and_eq_true]at hc;obtain⟨g',h',q1,_⟩:=h.adoptNew (e:=e) (b:=b) (nl:=true) hc.1;refine⟨g',⟨h'.typ,⟨h'.inv.size,h'.inv.nodef,h'.inv.ok,h'.inv.slot,fun l row hl=> ?_⟩,h'.fixd,h'.dirt⟩⟩;obtain⟨l1,l2⟩:=l;have hq:RK.rows ρ l1 (((st.push (.list e b (.nil (.sl e b)) true none)).setR r (.box e0 (cs.set j (.h st.nr)))).rk l1) l2=some row:=hl
    clear hl
    rcases setR_get (st.push (.list e b (.nil (.sl e b)) true none)) r l1 (.box e0 (cs.set j (.h st.nr)))with e1 | ⟨_,e1⟩
    ·rw[e1]at hq;split at hq
     ·rename_i e2;subst e2;cases l2 with
      | cons q p=>simp[RK.rows]at hq
      | nil=>
       simp only[RK.rows,Option.some.injEq]at hq;subst hq;have hlt:l1<st.nr:=rk_lt (fun e0=>by rw[hr]at e0;cases e0);have hold:RowRep X.P w g' (l1,[]) (.row true false e0 [encL ρ cs]):=h'.inv.row (l1,[]) _ (by
        show RK.rows ρ l1 ((st.push _).rk l1) []=_;rw[adopt_rk,if_neg (by omega),hr];rfl)
       cases hold with
       | full _ _ _ _ b0 base n cap vs f hf=>
        have hj:=set_nil (ρ:=ρ) (w:=w) hc.2 q1;have get:∀(i:Nat) (c:List C),[encL ρ (cs.set j (.h st.nr))][i]? =some c->i=0/\c=encL ρ (cs.set j (.h st.nr)):=fun i c hc=>by
         cases i with
         | zero=>cases hc;exact⟨rfl,rfl⟩
         | succ i=>cases hc
        refine .full _ _ _ _ b0 base n cap vs f ⟨hf.hd,hf.own,hf.heap,hf.len,hf.hcap,hf.hmax,hf.fit,hf.pos,fun i c hc=> ?_,fun i c k x h1 h2=> ?_,fun i c k x h1 h2=> ?_,fun h=>by cases h⟩
        ·obtain⟨rfl,rfl⟩:=get i c hc;have:=hf.size 0 _ rfl;rw[encL_map,List.length_map]at this ⊢;rw[List.length_set];exact this
        ·obtain⟨rfl,rfl⟩:=get i c h1;obtain⟨q0,hq0,_⟩:=hj k x h2;exact hf.cell 0 _ k q0 rfl hq0
        ·obtain⟨rfl,rfl⟩:=get i c h1;obtain⟨q0,hq0,hh⟩:=hj k x h2;exact hh _ (hf.rep 0 _ k q0 rfl hq0)
     ·exact h'.inv.row (l1,l2) row hq
    ·rw[e1,rows_dead]at hq;cases hq
   ·exact⟨g,h⟩
  ·exact⟨g,h⟩
 | g i j e b=>
  simp only[adoptOne];split
  ·rename_i cs hr;split
   ·rename_i hc;simp only[Bool.and_eq_true]at hc;obtain⟨g',h',q1,_⟩:=h.adoptNew (e:=e) (b:=b) (nl:=true) hc.1;refine⟨g',h'.reslot ?_⟩;have hs:=h'.inv.slot i;have hs:PRep X.P w g' ((st.slot i).enc ρ) (a.tmps.getD i undef):=hs;rw[hr]at hs;obtain⟨vs,e1,e2,e3⟩:=hs;refine⟨vs,e1,by rw[e2,encL_map,encL_map,List.length_map,List.length_map,List.length_set],fun k q hq=> ?_⟩;obtain⟨q0,hq0,hh⟩:=set_nil (ρ:=ρ) (w:=w) hc.2 q1 k q hq;obtain⟨u,hu,hr⟩:=e3 k q0 hq0;exact⟨u,hu,hh u hr⟩
   ·exact⟨g,h⟩
  ·exact⟨g,h⟩
 | t i j k e b=>exact⟨g,h⟩
 | fi r=>exact h.frzI r
 | ft r=>exact h.frzT r
theorem adoptTup_ok (h:TInv X D st ρ a w g)(i j k:Nat)(e:TypeId)(b:Ty):∃g',TInv X D (adoptTup st i j k e b) ρ a w g' :=by
 unfold adoptTup;split
 ·rename_i rs hr;split
  ·rename_i x hx;split
   ·rename_i hc;simp only[Bool.and_eq_true]at hc;obtain⟨g',h',q1,_⟩:=h.adoptNew (e:=e) (b:=b) (nl:=true) hc.1;refine⟨g',h'.reslot ?_⟩;have hs:=h'.inv.slot i;have hs:PRep X.P w g' ((st.slot i).enc ρ) (a.tmps.getD i undef):=hs;rw[hr]at hs;obtain⟨vs,e1,e2,e3⟩:=hs;refine⟨vs,e1,by rw[e2];simp,fun m q hq=> ?_⟩;rw[List.getElem?_map,Option.map_eq_some_iff]at hq;obtain⟨y,hy,rfl⟩:=hq;by_cases hm:m=j
    ·subst hm;have hlt:m<rs.length:=(List.getElem?_eq_some_iff.1 hx).1;rw[List.getElem?_set_self hlt]at hy;cases hy;obtain⟨u,hu,hr2⟩:=e3 m (encR ρ x) (by rw[List.getElem?_map,hx];rfl);refine⟨u,hu,?_⟩;obtain⟨x1,x2⟩:=x;have hset:=fun k' q hq=>set_nil (ρ:=ρ) (w:=w) (g:=g') (cs:=x2) (j:=k) (r:=st.nr) hc.2 q1 k' q hq
     unfold encR at hr2 ⊢;cases x1 with
     | true=>
      simp only[if_true]at hr2 ⊢;obtain⟨us,u1,u2,u3⟩:=hr2;refine⟨us,u1,by rw[u2,encL_map,encL_map];simp,fun k' q hq=> ?_⟩;obtain⟨q0,hq0,hh⟩:=hset k' q hq;obtain⟨u',hu',hr'⟩:=u3 k' q0 hq0;exact⟨u',hu',hh u' hr'⟩
     | false=>
      simp only[Bool.false_eq_true,if_false]at hr2 ⊢;have h0:=hset 0;cases x2 with
      | nil=>simp only[List.set_nil,encL]at hr2 ⊢;exact .gone u
      | cons c cs=>
       have hne:∃c' cs',(c::cs).set k (.h st.nr)=c' ::cs' :=by cases k<;>exact⟨_,_,rfl⟩
       obtain⟨c',cs',hcc⟩:=hne;rw[hcc]at h0 ⊢;simp only[encL]at hr2 h0 ⊢;obtain⟨q0,hq0,hh⟩:=h0 _ rfl;simp only[List.getElem?_cons_zero,Option.some.injEq]at hq0;subst hq0;exact hh u hr2
    ·rw[List.getElem?_set_ne (Ne.symm hm)]at hy;exact e3 m (encR ρ y) (by rw[List.getElem?_map,hy];rfl)
   ·exact⟨g,h⟩
  ·exact⟨g,h⟩
 ·exact⟨g,h⟩
theorem adoptAll_ok:∀(l:List Ado) (st:St) (g:G),TInv X D st ρ a w g->∃g',TInv X D (adoptAll l st) ρ a w g'
 | [],st,g,h=>⟨g,h⟩
 | x::l,st,g,h=>by
  cases x with
  | t i j k e b=>
   obtain⟨g',h'⟩:=adoptTup_ok h i j k e b;exact adoptAll_ok l _ g' h'
  | _=>
   simp only[adoptAll];obtain⟨g',h'⟩:=adoptOne_ok h _;exact adoptAll_ok l _ g' h'
theorem adoptOne_ts (st:St)(x:Ado):(adoptOne st x).ts=st.ts/\(adoptOne st x).fix=st.fix:=by
 cases x with
 | s i e b=>simp only[adoptOne];split<;>exact⟨rfl,rfl⟩
 | c r j e b=>simp only[adoptOne];split<;>(try split)<;>exact⟨rfl,rfl⟩
 | g i j e b=>simp only[adoptOne];split<;>(try split)<;>exact⟨rfl,rfl⟩
 | t i j k e b=>exact⟨rfl,rfl⟩
 | fi r=>simp only[adoptOne,St.frzI];split<;>(try split)<;>exact⟨rfl,rfl⟩
 | ft r=>simp only[adoptOne,St.frzT];split<;>(try split)<;>exact⟨rfl,rfl⟩
theorem adoptTup_ts (st:St)(i j k:Nat)(e:TypeId)(b:Ty):(adoptTup st i j k e b).ts=st.ts/\(adoptTup st i j k e b).fix=st.fix:=by
 unfold adoptTup;split<;>(try split)<;>(try split)<;>exact⟨rfl,rfl⟩
theorem adoptAll_ts:∀(l:List Ado) (st:St),(adoptAll l st).ts=st.ts/\(adoptAll l st).fix=st.fix
 | [],st=>⟨rfl,rfl⟩
 | x::l,st=>by
  cases x with
  | t i j k e b=>
   have h1:=adoptAll_ts l (adoptTup st i j k e b);have h2:=adoptTup_ts st i j k e b;exact⟨h1.1.trans h2.1,h1.2.trans h2.2⟩
  | s i e b=>exact⟨(adoptAll_ts l _).1.trans (adoptOne_ts st _).1,(adoptAll_ts l _).2.trans (adoptOne_ts st _).2⟩
  | c r j e b=>exact⟨(adoptAll_ts l _).1.trans (adoptOne_ts st _).1,(adoptAll_ts l _).2.trans (adoptOne_ts st _).2⟩
  | g i j e b=>exact⟨(adoptAll_ts l _).1.trans (adoptOne_ts st _).1,(adoptAll_ts l _).2.trans (adoptOne_ts st _).2⟩
  | fi r=>exact⟨(adoptAll_ts l _).1.trans (adoptOne_ts st _).1,(adoptAll_ts l _).2.trans (adoptOne_ts st _).2⟩
  | ft r=>exact⟨(adoptAll_ts l _).1.trans (adoptOne_ts st _).1,(adoptAll_ts l _).2.trans (adoptOne_ts st _).2⟩
theorem mapR_mem:∀{σ:List (Nat×Nat)} {r r' :Nat},mapR σ r=some r'→(r,r')∈σ
 | [],_,_,h=>by simp[mapR]at h
 | p::σ,r,r',h=>by
  simp only[mapR]at h;cases hb:Nat.beq p.1 r with
  | true=>
   rw[hb]at h;have:=Nat.eq_of_beq_eq_true hb;simp only[cond_true,Option.some.injEq]at h;subst this h;exact List.mem_cons_self
  | false=>rw[hb]at h;exact List.mem_cons_of_mem _ (mapR_mem h)
theorem unmapR_mem:∀{σ:List (Nat×Nat)} {r r' :Nat},unmapR σ r' =some r->(r,r')∈σ
 | [],_,_,h=>by simp[unmapR]at h
 | p::σ,r,r',h=>by
  simp only[unmapR]at h;cases hb:Nat.beq p.2 r' with
  | true=>
   rw[hb]at h;have:=Nat.eq_of_beq_eq_true hb;simp only[cond_true,Option.some.injEq]at h;subst this h;exact List.mem_cons_self
  | false=>rw[hb]at h;exact List.mem_cons_of_mem _ (unmapR_mem h)
theorem mem_mapR:∀{σ:List (Nat×Nat)} {r r' :Nat},nodup (σ.map (·.1))=true->(r,r')∈σ->mapR σ r=some r'
 | [],_,_,_,h=>by simp at h
 | p::σ,r,r',hn,h=>by
  simp only[List.map_cons,nodup,Bool.and_eq_true,Bool.not_eq_true']at hn;simp only[mapR];rcases List.mem_cons.1 h with e | h
  ·subst e;simp
  ·have hne:p.1≠r:=fun e=>by
    have:(σ.map (·.1)).contains p.1=true:=by simp only[List.contains_iff_mem,List.mem_map];exact⟨_,h,e.symm⟩
    rw[this]at hn;cases hn.1
   rw[beqN hne];exact mem_mapR hn.2 h
theorem mem_unmapR:∀{σ:List (Nat×Nat)} {r r' :Nat},nodup (σ.map (·.2))=true->(r,r')∈σ->unmapR σ r' =some r
 | [],_,_,_,h=>by simp at h
 | p::σ,r,r',hn,h=>by
  simp only[List.map_cons,nodup,Bool.and_eq_true,Bool.not_eq_true']at hn;simp only[unmapR];rcases List.mem_cons.1 h with e | h
  ·subst e;simp
  ·have hne:p.2≠r' :=fun e=>by
    have:(σ.map (·.2)).contains p.2=true:=by simp only[List.contains_iff_mem,List.mem_map];exact⟨_,h,e.symm⟩
    rw[this]at hn;cases hn.1
   rw[beqN hne];exact mem_unmapR hn.2 h
def mlS (σ:List (Nat×Nat))(l l' :Loc):Prop:=mapR σ l.1=some l'.1/\l.2=l'.2
def mrS (σ:List (Nat×Nat))(rg rg' :Rg):Prop:=(rg=none/\rg' =none)\/∃r r',rg=some r/\rg' =some r'∧mapR σ r=some r'
theorem vc_rel {ml:Loc->Loc->Prop}{mr:Rg->Rg->Prop}(v:V):C.Rel ml mr v.c v.c:=by
 unfold V.c;split
 ·exact .int _ _
 ·exact .bool _
 ·exact .gone _
theorem els_rel {ml:Loc->Loc->Prop}{mr:Rg->Rg->Prop}{rg rg' :Rg}(hr:mr rg rg')(v:V):C.Rel ml mr (.ro rg (v.els rg)) (.ro rg' (v.els rg')):=by
 unfold V.els;split
 ·rename_i e a xs;have:=enc_rel (ml:=ml) (.sl e a) (.inr hr) xs 0 _ _ rfl rfl;exact this
 ·exact .ro _ _ _ _ rfl (fun h=>absurd rfl h) (fun i cs cs' h=>by simp at h) (fun i cs cs' k x x' h=>by simp at h)
mutual
theorem SC.rel_rel (σ:List (Nat×Nat))(ρ:Env):∀(c:SC),C.Rel (mlS σ) (mrS σ) (c.enc ρ) ((c.rel σ).enc ρ)
 | .v x=>by simp only[SC.rel,SC.enc];exact vc_rel _
 | .s none x=>by simp only[SC.rel,SC.enc];exact els_rel (.inl ⟨rfl,rfl⟩) _
 | .s (some r) x=>by
  simp only[SC.rel];cases h:mapR σ r with
  | none=>simp only[SC.enc];exact .gone _
  | some r' =>simp only[SC.enc];exact els_rel (.inr ⟨r,r',rfl,rfl,h⟩) _
 | .nil=>by simp only[SC.rel,SC.enc];exact .nil
 | .h r=>by
  simp only[SC.rel];cases h:mapR σ r with
  | none=>simp only[SC.enc];exact .gone _
  | some r' =>simp only[SC.enc];exact .hd _ _ ⟨h,rfl⟩
 | .hn r i k x=>by
  simp only[SC.rel];cases h:mapR σ r with
  | none=>simp only[SC.enc];exact .gone _
  | some r' =>simp only[SC.enc];exact .both _ _ _ _ (.hd _ _ ⟨h,rfl⟩) (els_rel (.inr ⟨r,r',rfl,rfl,h⟩) _)
 | .hs r lo hi x=>by
  simp only[SC.rel];cases h:mapR σ r with
  | none=>simp only[SC.enc];exact .gone _
  | some r' =>simp only[SC.enc];exact .both _ _ _ _ (.sub _ _ _ _ _ ⟨h,rfl⟩) (els_rel (.inr ⟨r,r',rfl,rfl,h⟩) _)
 | .tk r x=>by
  simp only[SC.rel];cases h:mapR σ r with
  | none=>simp only[SC.enc];exact .gone _
  | some r' =>simp only[SC.enc];exact .both _ _ _ _ (.hd _ _ ⟨h,rfl⟩) (els_rel (.inl ⟨rfl,rfl⟩) _)
 | .rp none cells=>by
  simp only[SC.rel,SC.enc];exact .rp _ _ _ _ (.inl ⟨rfl,rfl⟩) (by rw[encL_map,encL_map,List.length_map,List.length_map,relL_length];exact Nat.le_refl _) (relL_rel σ ρ cells)
 | .rp (some r) cells=>by
  simp only[SC.rel];cases h:mapR σ r with
  | none=>simp only[SC.enc];exact .gone _
  | some r' =>
   simp only[SC.enc];exact .rp _ _ _ _ (.inr ⟨r,r',rfl,rfl,h⟩) (by rw[encL_map,encL_map,List.length_map,List.length_map,relL_length];exact Nat.le_refl _) (relL_rel σ ρ cells)
 | .fn f caps=>by
  simp only[SC.rel,SC.enc];exact .fn _ _ _ (by rw[encL_map,encL_map,List.length_map,List.length_map,relL_length]) (relL_rel σ ρ caps)
 | .gone=>by simp only[SC.rel,SC.enc];exact .gone _
theorem relL_rel (σ:List (Nat×Nat))(ρ:Env):∀(cs:List SC) (k:Nat) (x x' :C),(encL ρ cs)[k]? =some x->(encL ρ (relL σ cs))[k]? =some x'→C.Rel (mlS σ) (mrS σ) x x'
 | [],k,x,x',h,_=>by simp[encL]at h
 | c::cs,0,x,x',h,h' =>by
  simp only[relL,encL,List.getElem?_cons_zero,Option.some.injEq]at h h';subst h h';exact SC.rel_rel σ ρ c
 | c::cs,k+1,x,x',h,h' =>by
  simp only[relL,encL,List.getElem?_cons_succ]at h h';exact relL_rel σ ρ cs k x x' h h'
theorem relL_length {σ:List (Nat×Nat)}:∀(cs:List SC),(relL σ cs).length=cs.length
 | []=>by simp[relL]
 | c::cs=>by simp[relL,relL_length cs]
end
def relG (σ:List (Nat×Nat))(g:G):G:=
 { S:=g.S,own:=fun b=>match g.own b with | some l=>(mapR σ l.1).map fun r=>(r,l.2) | none=>none,hdr:=fun l=>match unmapR σ l.1 with | some r=>g.hdr (r,l.2) | none=>undef }
section
variable {σ:List (Nat×Nat)} (h1:nodup (σ.map (·.1))=true) (h2:nodup (σ.map (·.2))=true)
include h1 h2
theorem relG_hd:∀l l',mlS σ l l'→(relG σ g).hdr l' =g.hdr l:=fun l l' ⟨q1,q2⟩=>by
 obtain⟨l1,l2⟩:=l;obtain⟨l3,l4⟩:=l';simp only at q1 q2;subst q2;simp only[relG,mem_unmapR h2 (mapR_mem q1)]
theorem relG_reg:∀rg rg',mrS σ rg rg'→∀b,g.reg rg b->(relG σ g).reg rg' b/\w.heap[b]? =w.heap[b]? :=fun rg rg' hr b hb=>by
 refine⟨?_,rfl⟩;rcases hr with⟨rfl,rfl⟩ | ⟨r,r',rfl,rfl,hm⟩
 ·exact hb
 ·rcases hb with hb | ⟨p,hb⟩
  ·exact .inl hb
  ·exact .inr ⟨p,by simp only[relG,hb,hm];rfl⟩
theorem aggRel {cs:List SC}{v:Value}(h:AggRep w g (encL ρ cs) v):AggRep w (relG σ g) (encL ρ (relL σ cs)) v:=by
 obtain⟨vs,e1,e2,e3⟩:=h;refine⟨vs,e1,by rw[e2,encL_map,encL_map,List.length_map,List.length_map,relL_length],fun k q hq=> ?_⟩;obtain⟨q0,hq0⟩:=get_other (l:=encL ρ cs) (by rw[encL_map,encL_map,List.length_map,List.length_map,relL_length];exact Nat.le_refl _) hq;obtain⟨u,hu,hr⟩:=e3 k q0 hq0;exact⟨u,hu,hr.rel (relG_hd h1 h2) (relG_reg h1 h2) (relL_rel σ ρ cs k q0 q hq0 hq)⟩
theorem SV.rel_rep {P:Program}{v:Value}(sv:SV)(h:PRep P w g (sv.enc ρ) v):PRep P w (relG σ g) ((sv.rel σ).enc ρ) v:=by
 cases sv with
 | c x=>exact CRep.rel h (relG_hd h1 h2) (relG_reg h1 h2) (SC.rel_rel σ ρ x)
 | agg xs=>exact aggRel h1 h2 h
 | ad r e i k=>
  simp only[SV.rel];cases hm:mapR σ r with
  | none=>trivial
  | some r' =>
   obtain⟨b,base,q1,q2⟩:=h;exact⟨b,base,by rw[relG_hd h1 h2 (r,[]) (r',[]) ⟨hm,rfl⟩];exact q1,q2⟩
 | ra rg cells=>
  have key:∀rg',mrS σ rg rg'→PRep P w (relG σ g) (.ra rg' (encL ρ (relL σ cells))) v:=fun rg' hr=>by
   obtain⟨b,o,f,q1,q2,q3⟩:=h;refine⟨b,o,f,(relG_reg (w:=w) h1 h2 rg rg' hr b q1).1,q2,fun k q hq=> ?_⟩;obtain⟨q0,hq0⟩:=get_other (l:=encL ρ cells) (by rw[encL_map,encL_map,List.length_map,List.length_map,relL_length];exact Nat.le_refl _) hq;exact⟨(q3 k q0 hq0).1,(q3 k q0 hq0).2.rel (relG_hd h1 h2) (relG_reg h1 h2) (relL_rel σ ρ cells k q0 q hq0 hq)⟩
  cases rg with
  | none=>exact key none (.inl ⟨rfl,rfl⟩)
  | some r=>
   simp only[SV.rel];cases hm:mapR σ r with
   | none=>trivial
   | some r' =>exact key (some r') (.inr ⟨r,r',rfl,rfl,hm⟩)
 | tup rs=>
  obtain⟨vs,e1,e2,e3⟩:=h;refine⟨vs,e1,by rw[e2];simp,fun k q hq=> ?_⟩;rw[List.getElem?_map,List.getElem?_map,Option.map_map,Option.map_eq_some_iff]at hq;obtain⟨y,hy,rfl⟩:=hq;obtain⟨u,hu,hr⟩:=e3 k (encR ρ y) (by rw[List.getElem?_map,hy];rfl);refine⟨u,hu,?_⟩;unfold encR at hr ⊢;simp only[Function.comp];split at hr
  ·rename_i hb;rw[if_pos hb];exact aggRel h1 h2 hr
  ·rename_i hb;rw[if_neg hb];obtain⟨y1,y2⟩:=y;simp only at hr ⊢;cases y2 with
   | nil=>simp only[relL,encL]at hr ⊢;exact .gone u
   | cons c cs=>
    simp only[relL,encL]at hr ⊢;exact CRep.rel hr (relG_hd h1 h2) (relG_reg h1 h2) (SC.rel_rel σ ρ c)
 | und=>exact h
 | junk=>trivial
theorem RK.rel_rows {r r' :Nat}(hm:mapR σ r' =some r)(k:RK){p:List (Nat×Nat)}{row' :Row}(h:(k.rel σ).rows ρ r p=some row'):∃row,k.rows ρ r' p=some row/\Row.Rel (mlS σ) (mrS σ) row row' :=by
 cases k with
 | box e cells=>
  simp only[RK.rel]at h;cases p with
  | cons q p=>simp[RK.rows]at h
  | nil=>
   simp only[RK.rows,Option.some.injEq]at h;subst h;refine⟨_,rfl,.row _ _ _ _ _ _ (fun h=>h) rfl (fun i cs cs' q1 q2=> ?_) (fun i cs cs' k x x' q1 q2 q3 q4=> ?_)⟩
   ·cases i with
    | zero=>cases q1;cases q2;rw[encL_map,encL_map,List.length_map,List.length_map,relL_length]
    | succ i=>cases q1
   ·cases i with
    | zero=>cases q1;cases q2;exact relL_rel σ ρ cells k x x' q3 q4
    | succ i=>cases q1
 | list e b v nl inner=>
  cases inner with
  | none=>exact list_rel rfl (fun h=>h) (fun p _=>⟨hm,rfl⟩) (.inr (.inl ⟨rfl,rfl⟩)) h
  | some rg=>
   have key:∀rg',mrS σ rg rg'→(RK.list e b v nl (some rg')).rows ρ r p=some row'→∃row,(RK.list e b v nl (some rg)).rows ρ r' p=some row/\Row.Rel (mlS σ) (mrS σ) row row' :=fun rg' hr h=>by
    cases p with
    | cons q p=>obtain⟨e0,_⟩:=rows_cons_list h;cases e0
    | nil=>
     rw[rows_nil_list]at h;cases h;refine⟨_,rows_nil_list ..,.row _ _ _ _ _ _ (fun h=>h) (by simp) (fun i cs cs' q1 q2=> ?_) (fun i cs cs' k x x' q1 q2 q3 q4=> ?_)⟩
     ·rw[List.getElem?_mapIdx,Option.map_eq_some_iff]at q1 q2;obtain⟨z,hz,rfl⟩:=q1;obtain⟨z',hz',rfl⟩:=q2;simp only[encIn,enc_length]
     ·rw[List.getElem?_mapIdx,Option.map_eq_some_iff]at q1 q2;obtain⟨z,hz,rfl⟩:=q1;obtain⟨z',hz',rfl⟩:=q2;rw[hz]at hz';cases hz'
      exact enc_rel b (.inr hr) z k x x' q3 q4
   cases rg with
   | none=>exact key none (.inl ⟨rfl,rfl⟩) h
   | some r2=>
    simp only[RK.rel]at h;cases hm2:mapR σ r2 with
    | none=>rw[hm2]at h;simp only[rows_dead]at h;cases h
    | some r3=>rw[hm2]at h;exact key (some r3) (.inr ⟨r2,r3,rfl,rfl,hm2⟩) h
 | listH e b v nl i k=>simp only[RK.rel,rows_dead]at h;cases h
 | mp v=>
  simp only[RK.rel]at h;cases p with
  | cons q p=>simp[RK.rows]at h
  | nil=>
   simp only[RK.rows,Option.some.injEq]at h;subst h;exact⟨_,rfl,.mp _⟩
 | dead=>simp only[RK.rel,rows_dead]at h;cases h
theorem TInv.rel (h:TInv X D st ρ a w g)(n:Nat)(hfix:∀r,r∈st.fix->mapR σ r=some r)(hd:∀b,¬D b):TInv X D (st.rel σ n) ρ a w (relG σ g):=by
 have hok:=h.inv.ok;refine⟨h.typ,⟨h.inv.size,h.inv.nodef,⟨hok.chg,hok.base,hok.S,fun b l hl=> ?_⟩,fun s=> ?_,fun l row hl=> ?_⟩,fun r hr=> ?_,⟨fun b hb=>absurd hb (hd b),fun r b q h=>by cases h⟩⟩
 ·simp only[relG]at hl;split at hl
  ·rename_i l0 h0;exact hok.own b l0 h0
  ·cases hl
 ·have e:(st.rel σ n).slot s=(st.slot s).rel σ:=by
   unfold St.rel St.slot;simp only[List.getD,List.getElem?_map];cases st.slots[s]? <;>rfl
  show PRep X.P w _ (((st.rel σ n).slot s).enc ρ) _;rw[e];exact SV.rel_rep h1 h2 _ (h.inv.slot s)
 ·obtain⟨l1,l2⟩:=l;have hl:RK.rows ρ l1 ((st.rel σ n).rk l1) l2=some row:=hl;have e:(st.rel σ n).rk l1= .dead\/∃r',unmapR σ l1=some r'∧(st.rel σ n).rk l1=(st.rk r').rel σ:=by
   unfold St.rel;simp only[St.rk,List.getD,List.getElem?_map];by_cases hlt:l1<n
   ·rw[List.getElem?_range hlt];simp only[Option.map_some,Option.getD_some];cases hu:unmapR σ l1 with
    | none=>exact .inl rfl
    | some r' =>exact .inr ⟨r',rfl,rfl⟩
   ·rw[List.getElem?_eq_none (by simpa using hlt)];exact .inl rfl
  rcases e with e | ⟨r',hu,e⟩
  ·rw[e,rows_dead]at hl;cases hl
  ·rw[e]at hl;have hm:=mem_mapR h1 (unmapR_mem hu);obtain⟨row0,h3,h4⟩:=RK.rel_rows h1 h2 hm (st.rk r') hl;exact(h.inv.row (r',l2) row0 h3).rel (relG_hd h1 h2) (relG_reg h1 h2) (relG_hd h1 h2 _ _ ⟨hm,rfl⟩) (fun b hb=>⟨by simp only[relG,hb,hm];rfl,rfl⟩) h4
 ·rw[relG_hd h1 h2 (r,[]) (r,[]) ⟨hfix r hr,rfl⟩];exact h.fixd r hr
end
end
end Go.Pu
