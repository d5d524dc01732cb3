/-
  Own work. Placements, plainly.
-/
import Derived.Test.YtjpkedhcbnklmaaDvc
namespace Go.Pf
open Go Go.Pu
def bt (k:Int):Int:=if k=0 then 0 else if k=1 then 0 else if k=2 then 2 else if k=3 then 1 else -1
theorem bt_spec (k:Int):spec_BlockTile k=some (bt k):=by
  unfold spec_BlockTile bt
  by_cases h0:k=0
  · simp [h0]
  · by_cases h1:k=1
    · simp [h1]
    · by_cases h2:k=2
      · simp [h2]
      · by_cases h3:k=3
        · simp [h3]
        · simp [h0,h1,h2,h3]
theorem bt_impl (k:Int):impl_BlockTile k=some (bt k):=bt_spec k
theorem has_impl (xs:List Int) (x:Int) (h:xs.length<=4611686018427387904):impl_hasInt (xs,x)=some (decide (x∈xs)):=by
  unfold impl_hasInt
  dsimp only
  have e:=loop_all (f:=fun (v2:Int)=>
    let v3:Bool:=decide (v2<(xs.length:Int))
    bif v3 then (
      (gget 0 xs v2).bind fun v4=>
      let v5:Bool:=decide (v4=x)
      bif v5 then (
        Option.map Sum.inr (
          some true)) else
      let v6:Int:=wrap .i64 (v2+1)
      some (.inl v6)) else
    Option.map Sum.inr (
      some false)) xs.length (fun k=>(k:Int)) (fun k=>if hk:k<xs.length then decide (xs[k]≠x) else true) true false (fun k hk hok=>by
      rw [dif_pos hk] at hok
      have hne:=of_decide_eq_true hok
      dsimp only
      rw [dt (by omega),cond_true,gget_nat hk]
      simp only [Option.bind_some]
      rw [df hne,cond_false,wrap_ok (by omega)];rfl) (fun k hk hok=>by
      rw [dif_pos hk] at hok
      have he:=of_decide_eq_false hok
      dsimp only
      rw [dt (by omega),cond_true,gget_nat hk]
      simp only [Option.bind_some]
      rw [dt (by simpa using he),cond_true];rfl) (by
      dsimp only
      rw [df (by omega),cond_false];rfl)
  rw [all_range_list xs (fun y=>decide (y≠x)) _ (fun k hk=>by rw [dif_pos hk])] at e
  refine Eq.trans e ?_
  congr 1
  by_cases hm:x∈xs
  · rw [dt hm,if_neg]
    intro ha
    rw [List.all_eq_true] at ha
    exact of_decide_eq_true (ha x hm) rfl
  · rw [df hm,if_pos]
    rw [List.all_eq_true]
    intro y hy
    exact decide_eq_true (fun e=>hm (e▸hy))
theorem has_spec (xs:List Int) (x:Int) (h:xs.length<=4611686018427387904):spec_l13Has (xs,x)=some (decide (x∈xs)):=has_impl xs x h
def plOk (d:Int×(Int×(Int×Int))) (bs ps:List Int) (k:Nat):Bool:=
  if h:k<bs.length/\k<ps.length then decide (0<=tk d (ps[k]'h.2)/\tk d (ps[k]'h.2)=bt (bs[k]'h.1)/\ps[k]'h.2∉ps.take k) else true
def placeP (d:Int×(Int×(Int×Int))) (bs ps:List Int):Bool:=decide (DOk d/\bs.length<=64/\ps.length=bs.length) && (List.range bs.length).all (plOk d bs ps)
def seenA (N:Nat) (xs:List Int):List Bool:=(List.range N).map fun (t:Nat)=>decide ((t:Int)∈xs)
theorem seenA_get (N:Nat) (xs:List Int) (t:Nat) (h:t<N):gget false (seenA N xs) (t:Int)=some (decide ((t:Int)∈xs)):=by
  unfold seenA
  rw [gget_nat (by simpa using h)]
  simp
theorem seenA_len (N:Nat) (xs:List Int):(seenA N xs).length=N:=by simp [seenA]
theorem seenA_set (N:Nat) (xs:List Int) (t:Nat) (_h:t<N):gset (seenA N xs) (t:Int) true=seenA N (xs++[(t:Int)]):=by
  rw [gset_nat]
  apply List.ext_getElem?
  intro j
  by_cases hj:j<N
  · by_cases he:t=j
    · subst he
      rw [List.getElem?_set_self (by rw [seenA_len];exact hj)]
      simp [seenA,hj]
    · rw [List.getElem?_set_ne he]
      simp only [seenA,List.getElem?_map,List.getElem?_range hj,Option.map_some,List.mem_append,List.mem_singleton]
      congr 1
      rw [decide_eq_decide]
      constructor
      · exact fun q=>Or.inl q
      · rintro (q | q)
        · exact q
        · omega
  · rw [List.getElem?_eq_none (by rw [List.length_set,seenA_len];omega),List.getElem?_eq_none (by rw [seenA_len];omega)]
theorem seenA_nil (N:Nat):List.replicate N false=seenA N []:=by
  apply List.ext_getElem?
  intro j
  by_cases hj:j<N
  · simp [seenA,hj]
  · rw [List.getElem?_eq_none (by simp;omega),List.getElem?_eq_none (by rw [seenA_len];omega)]
theorem gslice_pre {xs:List Int} {k:Nat} (h:k<=xs.length):gslice xs 0 (k:Int)=some (xs.take k):=by
  unfold gslice;rw [if_pos (by omega)];simp
theorem place_impl (d:Int×(Int×(Int×Int))) (bs ps:List Int) (hp:∀p∈ps,p<=9223372036854775807):impl_PlaceOk (d,(bs,ps))=some (placeP d bs ps):=by
  unfold impl_PlaceOk placeP
  simp only [devOk_impl,Option.bind_some]
  by_cases h:DOk d
  · rw [dt h]
    simp only [Bool.not_true,cond_false]
    by_cases h2:bs.length<=64
    · rw [df (by omega),cond_false]
      by_cases h3:ps.length=bs.length
      · rw [df (by omega),cond_false,dt ⟨h,h2,h3⟩,Bool.true_and]
        have e:=loop_all (f:=fun (v9:Int)=>
    let v10:Bool:=decide (v9<(ps.length:Int))
    bif v10 then (
      (gget 0 ps v9).bind fun v11=>
      (gget 0 bs v9).bind fun v12=>
      (impl_BlockTile v12).bind fun v13=>
      let v14:Bool:=decide (v13<0)
      bif v14 then (
        Option.map Sum.inr (
          some false)) else
      (impl_TileKind (d,v11)).bind fun v15=>
      let v16:Bool:=decide (v15≠v13)
      bif v16 then (
        Option.map Sum.inr (
          some false)) else
      (gslice ps 0 v9).bind fun v17=>
      (impl_hasInt (v17,v11)).bind fun v18=>
      bif v18 then (
        Option.map Sum.inr (
          some false)) else
      let v19:Int:=wrap .i64 (v9+1)
      some (.inl v19)) else
    Option.map Sum.inr (
      some true)) bs.length (fun k:Nat=>(k:Int)) (plOk d bs ps) false true (fun k hk hok=>by
          have hkp:k<ps.length:=by omega
          unfold plOk at hok
          rw [dif_pos ⟨hk,hkp⟩] at hok
          obtain ⟨q1,q2,q3⟩:=of_decide_eq_true hok
          dsimp only
          rw [dt (by omega),cond_true,gget_nat hkp,gget_nat hk]
          simp only [Option.bind_some]
          rw [tk_impl d _ (hp _ (List.getElem_mem hkp)),bt_impl,gslice_pre (by omega)]
          simp only [Option.bind_some]
          rw [df (by omega),cond_false,df (by omega),cond_false,has_impl _ _ (by rw [List.length_take];omega),df q3]
          simp only [Option.bind_some,cond_false]
          rw [wrap_ok (by omega)]
          rfl) (fun k hk hok=>by
          have hkp:k<ps.length:=by omega
          unfold plOk at hok
          rw [dif_pos ⟨hk,hkp⟩] at hok
          have q:=of_decide_eq_false hok
          dsimp only
          rw [dt (by omega),cond_true,gget_nat hkp,gget_nat hk]
          simp only [Option.bind_some]
          rw [tk_impl d _ (hp _ (List.getElem_mem hkp)),bt_impl,gslice_pre (by omega)]
          simp only [Option.bind_some]
          by_cases q1:bt bs[k]<0
          · rw [dt q1,cond_true];rfl
          rw [df q1,cond_false]
          by_cases q2:tk d ps[k]=bt bs[k]
          · have q3:ps[k]∈ps.take k:=by
              refine Decidable.byContradiction (fun c=>q ⟨by omega,q2,c⟩)
            rw [df (by omega),cond_false,has_impl _ _ (by rw [List.length_take];omega),dt q3]
            rfl
          · rw [dt q2,cond_true];rfl) (by
          dsimp only
          rw [df (by omega),cond_false];rfl)
        refine Eq.trans e ?_
        cases (List.range bs.length).all (plOk d bs ps)<;>rfl
      · rw [dt (by omega),cond_true,df (fun e=>h3 e.2.2)];rfl
    · rw [dt (by omega),cond_true,df (fun e=>h2 e.2.1)];rfl
  · rw [df h]
    simp only [Bool.not_false,cond_true]
    rw [df (fun e=>h e.1)];rfl
end Go.Pf
