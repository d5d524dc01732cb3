/-
  Own work, printed by my tool: the readable functions.
-/
import Derived.Test.YtjpkedhcbnklmaaPu3
namespace Go.Pf
open Go Go.Pu
set_option linter.unusedVariables false
noncomputable def impl_inRange (v0:(Int×(Int×Int))):Option Bool:=
 let v1:Bool:=decide (v0.2.1<=v0.1)
 bif v1 then (
  let v2:Bool:=decide (v0.1<=v0.2.2)
  some v2) else
 some false
noncomputable def spec_BlockTile (v0:Int):Option Int:=
 let v1:Bool:=decide (v0=0)
 bif v1 then (
  bif v1 then (
   some 0) else
  let v2:Bool:=decide (v0=2)
  bif v2 then (
   some 2) else
  let v3:Bool:=decide (v0=3)
  bif v3 then (
   some 1) else
  some (-1)) else
 let v2:Bool:=decide (v0=1)
 bif v2 then (
  some 0) else
 let v3:Bool:=decide (v0=2)
 bif v3 then (
  some 2) else
 let v4:Bool:=decide (v0=3)
 bif v4 then (
  some 1) else
 some (-1)
noncomputable def impl_BlockTile (v0:Int):Option Int:=
 let v1:Bool:=decide (v0=0)
 bif v1 then (
  bif v1 then (
   some 0) else
  let v2:Bool:=decide (v0=2)
  bif v2 then (
   some 2) else
  let v3:Bool:=decide (v0=3)
  bif v3 then (
   some 1) else
  some (-1)) else
 let v2:Bool:=decide (v0=1)
 bif v2 then (
  some 0) else
 let v3:Bool:=decide (v0=2)
 bif v3 then (
  some 2) else
 let v4:Bool:=decide (v0=3)
 bif v4 then (
  some 1) else
 some (-1)
noncomputable def impl_hasInt (v0:(List Int×Int)):Option Bool:=
 let v1:Int:=((v0.1).length:Int)
 Pu.loop (fun (v2:Int)=>
  let v3:Bool:=decide (v2<v1)
  bif v3 then (
   (gget 0 v0.1 v2).bind fun v4=>
   let v5:Bool:=decide (v4=v0.2)
   bif v5 then (
    Option.map Sum.inr (
     some true)) else
   let v6:Int:=wrap .i64 (v2+1)
   some (.inl v6)) else
  Option.map Sum.inr (
   some false)) 0
noncomputable def spec_l01In (v0:(Int×(Int×Int))):Option Bool:=
 let v1:Bool:=decide (v0.2.1<=v0.1)
 bif v1 then (
  let v2:Bool:=decide (v0.1<=v0.2.2)
  some v2) else
 some false
noncomputable def spec_l13Has (v0:(List Int×Int)):Option Bool:=
 Pu.loop (fun (v1:Int)=>
  let v2:Int:=((v0.1).length:Int)
  let v3:Bool:=decide (v1<v2)
  bif v3 then (
   (gget 0 v0.1 v1).bind fun v4=>
   let v5:Bool:=decide (v4=v0.2)
   bif v5 then (
    Option.map Sum.inr (
     some true)) else
   let v6:Int:=wrap .i64 (v1+1)
   some (.inl v6)) else
  Option.map Sum.inr (
   some false)) 0
noncomputable def impl_pinsOf (v0:(Int×((Int×Int)×List (Int×Int)))):Option (List (Int×Int)):=
 let v1:List (Int×Int):=[v0.2.1]
 (gapp 16 v1 v0.2.2).bind fun v2=>
 some v2
noncomputable def impl_copyInts (v0:List Int):Option (List Int):=
 (gapp 8 ([]:List Int) v0).bind fun v1=>
 some v1
noncomputable def impl_tileKind (v0:((Int×(Int×(Int×Int)))×Int)):Option Int:=
 (grem v0.2 v0.1.1).bind fun v1=>
 (gdiv .i64 v0.2 v0.1.1).bind fun v2=>
 let v3:Bool:=decide (v1=0)
 bif v3 then (
  some 0) else
 let v4:Int:=wrap .i64 (v0.1.1 - 1)
 let v5:Bool:=decide (v1=v4)
 bif v5 then (
  some 0) else
 let v6:Bool:=decide (v2=0)
 bif v6 then (
  some 0) else
 let v7:Int:=wrap .i64 (v0.1.2.1 - 1)
 let v8:Bool:=decide (v2=v7)
 bif v8 then (
  some 0) else
 let v9:Bool:=decide (v1=v0.1.2.2.2)
 bif v9 then (
  some 2) else
 some 1
noncomputable def spec_l07Bit (v0:Bool):Option Int:=
 bif v0 then (
  some 1) else
 some 0
noncomputable def spec_DeviceOk (v0:(Int×(Int×(Int×Int)))):Option Bool:=
 (spec_l01In (v0.1,(3,6))).bind fun v1=>
 bif v1 then (
  (spec_l01In (v0.2.1,(3,6))).bind fun v2=>
  bif v2 then (
   (spec_l01In (v0.2.2.1,(1,4))).bind fun v3=>
   bif v3 then (
    let v4:Bool:=decide (v0.2.2.2=(-1))
    bif v4 then (
     some true) else
    let v5:Int:=wrap .i64 (v0.1 - 2)
    (spec_l01In (v0.2.2.2,(1,v5))).bind fun v6=>
    some v6) else
   some false) else
  some false) else
 some false
noncomputable def impl_DeviceOk (v0:(Int×(Int×(Int×Int)))):Option Bool:=
 (impl_inRange (v0.1,(3,6))).bind fun v1=>
 bif v1 then (
  (impl_inRange (v0.2.1,(3,6))).bind fun v2=>
  bif v2 then (
   (impl_inRange (v0.2.2.1,(1,4))).bind fun v3=>
   bif v3 then (
    let v4:Bool:=decide (v0.2.2.2=(-1))
    bif v4 then (
     some true) else
    let v5:Int:=wrap .i64 (v0.1 - 2)
    (impl_inRange (v0.2.2.2,(1,v5))).bind fun v6=>
    some v6) else
   some false) else
  some false) else
 some false
noncomputable def impl_pinOk (v0:(Int×(Int×Int))):Option Bool:=
 let v1:Int:=wrap .i64 (v0.1 - 1)
 (impl_inRange (v0.2.1,(0,v1))).bind fun v2=>
 bif v2 then (
  (impl_inRange (v0.2.2,(0,4))).bind fun v3=>
  some v3) else
 some false
noncomputable def impl_ConnsOk (v0:(Int×List (Int×((Int×Int)×List (Int×Int))))):Option Bool:=
 (impl_inRange (v0.1,(0,64))).bind fun v1=>
 let v2:Bool:= !v1
 bif v2 then (
  some false) else
 let v3:Int:=((v0.2).length:Int)
 let v4:Bool:=decide (100<v3)
 bif v4 then (
  some false) else
 let v5:Int:=((v0.2).length:Int)
 Pu.loop (fun (v6:Int)=>
  let v7:Bool:=decide (v6<v5)
  bif v7 then (
   (gget (0,((0,0),[])) v0.2 v6).bind fun v8=>
   let v9:Int:=((v8.2.2).length:Int)
   (impl_inRange (v9,(1,120))).bind fun v10=>
   let v11:Bool:= !v10
   bif v11 then (
    Option.map Sum.inr (
     some false)) else
   (impl_pinOk (v0.1,v8.2.1)).bind fun v12=>
   let v13:Bool:= !v12
   bif v13 then (
    Option.map Sum.inr (
     some false)) else
   let v14:Int:=((v8.2.2).length:Int)
   Pu.loop (fun (v15:Int)=>
    let v16:Bool:=decide (v15<v14)
    bif v16 then (
     (gget (0,0) v8.2.2 v15).bind fun v17=>
     (impl_pinOk (v0.1,v17)).bind fun v18=>
     let v19:Bool:= !v18
     bif v19 then (
      Option.map Sum.inr (
       Option.map Sum.inr (
        some false))) else
     let v20:Int:=wrap .i64 (v15+1)
     some (.inl v20)) else
    Option.map Sum.inr (
     let v17:Int:=wrap .i64 (v6+1)
     some (.inl v17))) 0) else
  Option.map Sum.inr (
   some true)) 0
noncomputable def spec_TileKind (v0:((Int×(Int×(Int×Int)))×Int)):Option Int:=
 (spec_DeviceOk v0.1).bind fun v1=>
 let v2:Bool:= !v1
 bif v2 then (
  some (-1)) else
 let v3:Bool:=decide (v0.2<0)
 bif v3 then (
  some (-1)) else
 let v4:Int:=wrap .i64 (v0.1.1*v0.1.2.1)
 let v5:Bool:=decide (v4<=v0.2)
 bif v5 then (
  some (-1)) else
 (grem v0.2 v0.1.1).bind fun v6=>
 (gdiv .i64 v0.2 v0.1.1).bind fun v7=>
 let v8:Bool:=decide (v6=0)
 bif v8 then (
  some 0) else
 let v9:Bool:=decide (v7=0)
 bif v9 then (
  some 0) else
 let v10:Int:=wrap .i64 (v0.1.1 - 1)
 let v11:Bool:=decide (v6=v10)
 bif v11 then (
  some 0) else
 let v12:Int:=wrap .i64 (v0.1.2.1 - 1)
 let v13:Bool:=decide (v7=v12)
 bif v13 then (
  some 0) else
 let v14:Bool:=decide (v6=v0.1.2.2.2)
 bif v14 then (
  some 2) else
 some 1
noncomputable def impl_tileOk (v0:((Int×(Int×(Int×Int)))×Int)):Option Bool:=
 (impl_DeviceOk v0.1).bind fun v1=>
 bif v1 then (
  let v2:Int:=wrap .i64 (v0.1.1*v0.1.2.1)
  let v3:Int:=wrap .i64 (v2 - 1)
  (impl_inRange (v0.2,(0,v3))).bind fun v4=>
  some v4) else
 some false
noncomputable def impl_ConnSpan (v0:((Int×(Int×(Int×Int)))×(List Int×(Int×((Int×Int)×List (Int×Int)))))):Option Int:=
 (impl_DeviceOk v0.1).bind fun v1=>
 let v2:Bool:= !v1
 bif v2 then (
  some (-1)) else
 (impl_pinsOf v0.2.2).bind fun v3=>
 let v4:Int:=((v3).length:Int)
 Pu.loop (fun (v5:(Int×(Int×(Int×(Int×Int)))))=>
  let v6:Bool:=decide (v5.2.2.2.2<v4)
  bif v6 then (
   (gin (v3).length v5.2.2.2.2).bind fun _=>
   (gget (0,0) v3 v5.2.2.2.2).bind fun v8=>
   let v9:Int:=((v0.2.1).length:Int)
   let v10:Int:=wrap .i64 (v9 - 1)
   (impl_inRange (v8.1,(0,v10))).bind fun v11=>
   let v12:Bool:= !v11
   bif v12 then (
    Option.map Sum.inr (
     some (-1))) else
   (gget 0 v0.2.1 v8.1).bind fun v13=>
   (impl_tileOk (v0.1,v13)).bind fun v14=>
   let v15:Bool:= !v14
   bif v15 then (
    Option.map Sum.inr (
     some (-1))) else
   (gget 0 v0.2.1 v8.1).bind fun v16=>
   (grem v16 v0.1.1).bind fun v17=>
   (gget 0 v0.2.1 v8.1).bind fun v18=>
   (gdiv .i64 v18 v0.1.1).bind fun v19=>
   let v20:Int:=if v17<v5.1 then v17 else v5.1
   let v21:Int:=if v5.2.1<v17 then v17 else v5.2.1
   let v22:Int:=if v19<v5.2.2.1 then v19 else v5.2.2.1
   let v23:Int:=if v5.2.2.2.1<v19 then v19 else v5.2.2.2.1
   let v24:Int:=wrap .i64 (v5.2.2.2.2+1)
   some (.inl (v20,(v21,(v22,(v23,v24)))))) else
  Option.map Sum.inr (
   let v7:Int:=wrap .i64 (v5.2.1 - v5.1)
   let v8:Int:=wrap .i64 (v7+v5.2.2.2.1)
   let v9:Int:=wrap .i64 (v8 - v5.2.2.1)
   some v9)) (6,((-1),(6,((-1),0))))
noncomputable def impl_TileKind (v0:((Int×(Int×(Int×Int)))×Int)):Option Int:=
 (impl_tileOk v0).bind fun v1=>
 let v2:Bool:= !v1
 bif v2 then (
  some (-1)) else
 (impl_tileKind v0).bind fun v3=>
 some v3
noncomputable def spec_TilesOf (v0:((Int×(Int×(Int×Int)))×Int)):Option (List Int):=
 (spec_DeviceOk v0.1).bind fun v1=>
 let v2:Bool:= !v1
 bif v2 then (
  some ([]:List Int)) else
 Pu.loop (fun (v3:(Int×List Int))=>
  let v4:Int:=wrap .i64 (v0.1.1*v0.1.2.1)
  let v5:Bool:=decide (v3.1<v4)
  bif v5 then (
   (spec_TileKind (v0.1,v3.1)).bind fun v6=>
   let v7:Bool:=decide (v6=v0.2)
   bif v7 then (
    let v8:List Int:=[v3.1]
    (gapp 8 v3.2 v8).bind fun v9=>
    let v10:Int:=wrap .i64 (v3.1+1)
    some (.inl (v10,v9))) else
   let v8:Int:=wrap .i64 (v3.1+1)
   some (.inl (v8,v3.2))) else
  Option.map Sum.inr (
   some v3.2)) (0,([]:List Int))
noncomputable def impl_PlaceOk (v0:((Int×(Int×(Int×Int)))×(List Int×List Int))):Option Bool:=
 (impl_DeviceOk v0.1).bind fun v1=>
 let v2:Bool:= !v1
 bif v2 then (
  some false) else
 let v3:Int:=((v0.2.1).length:Int)
 let v4:Bool:=decide (64<v3)
 bif v4 then (
  some false) else
 let v5:Int:=((v0.2.2).length:Int)
 let v6:Int:=((v0.2.1).length:Int)
 let v7:Bool:=decide (v5≠v6)
 bif v7 then (
  some false) else
 let v8:Int:=((v0.2.2).length:Int)
 Pu.loop (fun (v9:Int)=>
  let v10:Bool:=decide (v9<v8)
  bif v10 then (
   (gget 0 v0.2.2 v9).bind fun v11=>
   (gget 0 v0.2.1 v9).bind fun v12=>
   (impl_BlockTile v12).bind fun v13=>
   let v14:Bool:=decide (v13<0)
   bif v14 then (
    Option.map Sum.inr (
     some false)) else
   (impl_TileKind (v0.1,v11)).bind fun v15=>
   let v16:Bool:=decide (v15≠v13)
   bif v16 then (
    Option.map Sum.inr (
     some false)) else
   (gslice v0.2.2 0 v9).bind fun v17=>
   (impl_hasInt (v17,v11)).bind fun v18=>
   bif v18 then (
    Option.map Sum.inr (
     some false)) else
   let v19:Int:=wrap .i64 (v9+1)
   some (.inl v19)) else
  Option.map Sum.inr (
   some true)) 0
noncomputable def impl_PlaceCost (v0:((Int×(Int×(Int×Int)))×(List Int×List (Int×((Int×Int)×List (Int×Int)))))):Option Int:=
 let v1:Int:=((v0.2.1).length:Int)
 (impl_ConnsOk (v1,v0.2.2)).bind fun v2=>
 let v3:Bool:= !v2
 bif v3 then (
  some (-1)) else
 let v4:Int:=((v0.2.2).length:Int)
 Pu.loop (fun (v5:(Int×Int))=>
  let v6:Bool:=decide (v5.2<v4)
  bif v6 then (
   (gget (0,((0,0),[])) v0.2.2 v5.2).bind fun v7=>
   (impl_ConnSpan (v0.1,(v0.2.1,v7))).bind fun v8=>
   let v9:Bool:=decide (v8<0)
   bif v9 then (
    Option.map Sum.inr (
     some (-1))) else
   let v10:Int:=wrap .i64 (v5.1+v8)
   let v11:Int:=wrap .i64 (v5.2+1)
   some (.inl (v10,v11))) else
  Option.map Sum.inr (
   some v5.1)) (0,0)
noncomputable def spec_l27Sort (v0:List Int):Option (List Int):=
 (gapp 8 ([]:List Int) v0).bind fun v1=>
 Pu.loop (fun (v2:(Int×List Int))=>
  let v3:Int:=((v2.2).length:Int)
  let v4:Bool:=decide (v2.1<v3)
  bif v4 then (
   joinO (
    Pu.loop (fun (v5:(Int×List Int))=>
     let v6:Bool:=decide (0<v5.1)
     bif v6 then (
      (gin (v5.2).length v5.1).bind fun _=>
      (gget 0 v5.2 v5.1).bind fun v8=>
      let v9:Int:=wrap .i64 (v5.1 - 1)
      (gin (v5.2).length v9).bind fun _=>
      (gget 0 v5.2 v9).bind fun v11=>
      let v12:Bool:=decide (v8<v11)
      bif v12 then (
       (gin (v5.2).length v5.1).bind fun _=>
       (gget 0 v5.2 v5.1).bind fun v14=>
       let v15:Int:=wrap .i64 (v5.1 - 1)
       (gin (v5.2).length v15).bind fun _=>
       (gget 0 v5.2 v15).bind fun v17=>
       (gin (v5.2).length v5.1).bind fun _=>
       (gget 0 v5.2 v5.1).bind fun v19=>
       let v20:Int:=v17
       let v21:List Int:=gset v5.2 v5.1 v20
       let v22:Int:=wrap .i64 (v5.1 - 1)
       (gin (v21).length v22).bind fun _=>
       (gget 0 v21 v22).bind fun v24=>
       let v25:Int:=v14
       let v26:List Int:=gset v21 v22 v25
       let v27:Int:=wrap .i64 (v5.1 - 1)
       some (.inl (v27,v26))) else
      Option.map Sum.inr (
       some (.inl v5.2))) else
     Option.map Sum.inr (
      some (.inl v5.2))) v2) (fun (v5:List Int)=>
    let v6:Int:=wrap .i64 (v2.1+1)
    some (.inl (v6,v5)))) else
  Option.map Sum.inr (
   some v2.2)) (1,v1)
noncomputable def impl_insertInt (v0:(List Int×Int)):Option (List Int):=
 joinO (
  Pu.loop (fun (v1:Int)=>
   let v2:Int:=((v0.1).length:Int)
   let v3:Bool:=decide (v1<v2)
   bif v3 then (
    (gin (v0.1).length v1).bind fun _=>
    (gget 0 v0.1 v1).bind fun v5=>
    let v6:Bool:=decide (v5<v0.2)
    bif v6 then (
     let v7:Int:=wrap .i64 (v1+1)
     some (.inl v7)) else
    Option.map Sum.inr (
     some (.inl v1))) else
   Option.map Sum.inr (
    some (.inl v1))) 0) (fun (v1:Int)=>
  let v2:Int:=((v0.1).length:Int)
  let v3:Bool:=decide (v1<v2)
  bif v3 then (
   (gin (v0.1).length v1).bind fun _=>
   (gget 0 v0.1 v1).bind fun v5=>
   let v6:Bool:=decide (v5=v0.2)
   bif v6 then (
    some v0.1) else
   (gslice v0.1 0 v1).bind fun v7=>
   (gapp 8 ([]:List Int) v7).bind fun v8=>
   let v9:List Int:=[v0.2]
   (gapp 8 v8 v9).bind fun v10=>
   (gslice v0.1 v1 ((v0.1).length:Int)).bind fun v11=>
   (gapp 8 v10 v11).bind fun v12=>
   some v12) else
  (gslice v0.1 0 v1).bind fun v4=>
  (gapp 8 ([]:List Int) v4).bind fun v5=>
  let v6:List Int:=[v0.2]
  (gapp 8 v5 v6).bind fun v7=>
  (gslice v0.1 v1 ((v0.1).length:Int)).bind fun v8=>
  (gapp 8 v7 v8).bind fun v9=>
  some v9)
noncomputable def impl_lutNodes (v0:(Int×(List (Int×(Int×List Int))×(List (List Int×Int)×List Int)))):Option Int:=
 let v1:Int:=wrap .i64 (1+v0.1)
 let v2:Int:=((v0.2.1).length:Int)
 let v3:Int:=wrap .i64 (v1+v2)
 let v4:Int:=((v0.2.2.1).length:Int)
 let v5:Int:=wrap .i64 (v3+v4)
 some v5
noncomputable def spec_l20Below (v0:(List Int×Int)):Option Bool:=
 Pu.loop (fun (v1:Int)=>
  let v2:Int:=((v0.1).length:Int)
  let v3:Bool:=decide (v1<v2)
  bif v3 then (
   (gget 0 v0.1 v1).bind fun v4=>
   let v5:Bool:=decide (v4<0)
   bif v5 then (
    Option.map Sum.inr (
     some false)) else
   (gget 0 v0.1 v1).bind fun v6=>
   let v7:Bool:=decide (v0.2<=v6)
   bif v7 then (
    Option.map Sum.inr (
     some false)) else
   let v8:Int:=wrap .i64 (v1+1)
   some (.inl v8)) else
  Option.map Sum.inr (
   some true)) 0
noncomputable def spec_l20First (v0:(Int×(List (Int×(Int×List Int))×(List (List Int×Int)×List Int)))):Option Int:=
 let v1:Int:=wrap .i64 (1+v0.1)
 let v2:Int:=((v0.2.1).length:Int)
 let v3:Int:=wrap .i64 (v1+v2)
 some v3
noncomputable def impl_firstLut (v0:(Int×(List (Int×(Int×List Int))×(List (List Int×Int)×List Int)))):Option Int:=
 let v1:Int:=wrap .i64 (1+v0.1)
 let v2:Int:=((v0.2.1).length:Int)
 let v3:Int:=wrap .i64 (v1+v2)
 some v3
noncomputable def spec_l02Full (v0:Int):Option Int:=
 (gshift true .u64 1 v0).bind fun v1=>
 (gshift true .i64 1 v1).bind fun v2=>
 let v3:Int:=wrap .i64 (v2 - 1)
 some v3
noncomputable def spec_LutNodes (v0:(Int×(List (Int×(Int×List Int))×(List (List Int×Int)×List Int)))):Option Int:=
 (spec_l01In (v0.1,(0,20))).bind fun v1=>
 let v2:Bool:= !v1
 bif v2 then (
  some 0) else
 let v3:Int:=((v0.2.1).length:Int)
 let v4:Bool:=decide (12<v3)
 bif v4 then (
  some 0) else
 let v5:Int:=((v0.2.2.1).length:Int)
 let v6:Bool:=decide (400<v5)
 bif v6 then (
  some 0) else
 let v7:Int:=((v0.2.2.2).length:Int)
 let v8:Bool:=decide (16<v7)
 bif v8 then (
  some 0) else
 let v9:Int:=wrap .i64 (1+v0.1)
 let v10:Int:=((v0.2.1).length:Int)
 let v11:Int:=wrap .i64 (v9+v10)
 let v12:Int:=((v0.2.2.1).length:Int)
 let v13:Int:=wrap .i64 (v11+v12)
 some v13
noncomputable def impl_useCounts (v0:(Int×(List (Int×(Int×List Int))×(List (List Int×Int)×List Int)))):Option (List Int):=
 (impl_lutNodes v0).bind fun v1=>
 (gmake 8 (0:Int) v1).bind fun v2=>
 let v3:Int:=((v0.2.2.1).length:Int)
 Pu.loop (fun (v4:(Int×List Int))=>
  let v5:Bool:=decide (v4.1<v3)
  bif v5 then (
   (gget ([],0) v0.2.2.1 v4.1).bind fun v6=>
   let v7:Int:=((v6.1).length:Int)
   Pu.loop (fun (v8:(Int×List Int))=>
    let v9:Bool:=decide (v8.1<v7)
    bif v9 then (
     (gget 0 v6.1 v8.1).bind fun v10=>
     (gin (v8.2).length v10).bind fun _=>
     (gget 0 v8.2 v10).bind fun v12=>
     let v13:Int:=wrap .i64 (v12+1)
     (gin (v8.2).length v10).bind fun _=>
     (gget 0 v8.2 v10).bind fun v15=>
     let v16:Int:=v13
     let v17:List Int:=gset v8.2 v10 v16
     let v18:Int:=wrap .i64 (v8.1+1)
     some (.inl (v18,v17))) else
    Option.map Sum.inr (
     let v10:Int:=wrap .i64 (v4.1+1)
     some (.inl (v10,v8.2)))) (0,v4.2)) else
  Option.map Sum.inr (
   let v6:Int:=((v0.2.1).length:Int)
   Pu.loop (fun (v7:(Int×List Int))=>
    let v8:Bool:=decide (v7.1<v6)
    bif v8 then (
     (gget (0,(0,[])) v0.2.1 v7.1).bind fun v9=>
     let v10:Int:=((v9.2.2).length:Int)
     Pu.loop (fun (v11:(Int×List Int))=>
      let v12:Bool:=decide (v11.1<v10)
      bif v12 then (
       (gget 0 v9.2.2 v11.1).bind fun v13=>
       (gin (v11.2).length v13).bind fun _=>
       (gget 0 v11.2 v13).bind fun v15=>
       let v16:Int:=wrap .i64 (v15+1)
       (gin (v11.2).length v13).bind fun _=>
       (gget 0 v11.2 v13).bind fun v18=>
       let v19:Int:=v16
       let v20:List Int:=gset v11.2 v13 v19
       let v21:Int:=wrap .i64 (v11.1+1)
       some (.inl (v21,v20))) else
      Option.map Sum.inr (
       let v13:Int:=wrap .i64 (v7.1+1)
       some (.inl (v13,v11.2)))) (0,v7.2)) else
    Option.map Sum.inr (
     let v9:Int:=((v0.2.2.2).length:Int)
     Pu.loop (fun (v10:(Int×List Int))=>
      let v11:Bool:=decide (v10.1<v9)
      bif v11 then (
       (gget 0 v0.2.2.2 v10.1).bind fun v12=>
       (gin (v10.2).length v12).bind fun _=>
       (gget 0 v10.2 v12).bind fun v14=>
       let v15:Int:=wrap .i64 (v14+1)
       (gin (v10.2).length v12).bind fun _=>
       (gget 0 v10.2 v12).bind fun v17=>
       let v18:Int:=v15
       let v19:List Int:=gset v10.2 v12 v18
       let v20:Int:=wrap .i64 (v10.1+1)
       some (.inl (v20,v19))) else
      Option.map Sum.inr (
       some v10.2)) (0,v7.2))) (0,v4.2))) (0,v2)
noncomputable def spec_l28Out (v0:((Int×(List (Int×(Int×List Int))×(List (List Int×Int)×List Int)))×(Int×Int))):Option Int:=
 let v1:Bool:=decide (0<=v0.2.2)
 bif v1 then (
  let v2:Int:=wrap .i64 (1+v0.1.1)
  let v3:Int:=wrap .i64 (v2+v0.2.2)
  some v3) else
 (spec_l20First v0.1).bind fun v2=>
 let v3:Int:=wrap .i64 (v2+v0.2.1)
 some v3
noncomputable def impl_leOutput (v0:((Int×(List (Int×(Int×List Int))×(List (List Int×Int)×List Int)))×(Int×Int))):Option Int:=
 let v1:Bool:=decide (0<=v0.2.2)
 bif v1 then (
  let v2:Int:=wrap .i64 (1+v0.1.1)
  let v3:Int:=wrap .i64 (v2+v0.2.2)
  some v3) else
 (impl_firstLut v0.1).bind fun v2=>
 let v3:Int:=wrap .i64 (v2+v0.2.1)
 some v3
noncomputable def impl_leInputs (v0:((Int×(List (Int×(Int×List Int))×(List (List Int×Int)×List Int)))×(Int×Int))):Option (List Int):=
 joinO (
  let v1:Bool:=decide (0<=v0.2.1)
  bif v1 then (
   (gget ([],0) v0.1.2.2.1 v0.2.1).bind fun v2=>
   some (.inl v2.1)) else
  (gget (0,(0,[])) v0.1.2.1 v0.2.2).bind fun v2=>
  some (.inl v2.2.2)) (fun (v1:List Int)=>
  let v2:Int:=((v1).length:Int)
  Pu.loop (fun (v3:(List Int×Int))=>
   let v4:Bool:=decide (v3.2<v2)
   bif v4 then (
    (gget 0 v1 v3.2).bind fun v5=>
    let v6:Bool:=decide (v5≠0)
    bif v6 then (
     (impl_insertInt (v3.1,v5)).bind fun v7=>
     let v8:Int:=wrap .i64 (v3.2+1)
     some (.inl (v7,v8))) else
    let v7:Int:=wrap .i64 (v3.2+1)
    some (.inl (v3.1,v7))) else
   Option.map Sum.inr (
    some v3.1)) (([]:List Int),0))
noncomputable def spec_TableOk (v0:(Int×Int)):Option Bool:=
 (spec_l01In (v0.1,(0,4))).bind fun v1=>
 bif v1 then (
  let v2:Bool:=decide (0<=v0.2)
  bif v2 then (
   (spec_l02Full v0.1).bind fun v3=>
   let v4:Bool:=decide (v0.2<=v3)
   some v4) else
  some false) else
 some false
noncomputable def impl_LutNodes (v0:(Int×(List (Int×(Int×List Int))×(List (List Int×Int)×List Int)))):Option Int:=
 (impl_inRange (v0.1,(0,20))).bind fun v1=>
 let v2:Bool:= !v1
 bif v2 then (
  some 0) else
 let v3:Int:=((v0.2.1).length:Int)
 let v4:Bool:=decide (12<v3)
 bif v4 then (
  some 0) else
 let v5:Int:=((v0.2.2.1).length:Int)
 let v6:Bool:=decide (400<v5)
 bif v6 then (
  some 0) else
 let v7:Int:=((v0.2.2.2).length:Int)
 let v8:Bool:=decide (16<v7)
 bif v8 then (
  some 0) else
 (impl_lutNodes v0).bind fun v9=>
 some v9
noncomputable def impl_nodesBelow (v0:(List Int×Int)):Option Bool:=
 let v1:Int:=((v0.1).length:Int)
 Pu.loop (fun (v2:Int)=>
  let v3:Bool:=decide (v2<v1)
  bif v3 then (
   (gget 0 v0.1 v2).bind fun v4=>
   let v5:Int:=wrap .i64 (v0.2 - 1)
   (impl_inRange (v4,(0,v5))).bind fun v6=>
   let v7:Bool:= !v6
   bif v7 then (
    Option.map Sum.inr (
     some false)) else
   let v8:Int:=wrap .i64 (v2+1)
   some (.inl v8)) else
  Option.map Sum.inr (
   some true)) 0
noncomputable def impl_seqOk (v0:(Int×(Int×List Int))):Option Bool:=
 let v1:Bool:=decide (v0.1=0)
 bif v1 then (
  (impl_inRange (v0.2.1,(0,1))).bind fun v2=>
  bif v2 then (
   let v3:Int:=((v0.2.2).length:Int)
   let v4:Bool:=decide (v3=1)
   some v4) else
  some false) else
 let v2:Bool:=decide (v0.1=1)
 bif v2 then (
  (impl_inRange (v0.2.1,(0,31))).bind fun v3=>
  bif v3 then (
   let v4:Int:=((v0.2.2).length:Int)
   let v5:Bool:=decide (v4=4)
   some v5) else
  some false) else
 some false
noncomputable def impl_TableOk (v0:(Int×Int)):Option Bool:=
 (impl_inRange (v0.1,(0,4))).bind fun v1=>
 bif v1 then (
  let v2:Int:=wrap .u64 v0.1
  (gshift true .u64 1 v2).bind fun v3=>
  (gshift true .i64 1 v3).bind fun v4=>
  let v5:Int:=wrap .i64 (v4 - 1)
  (impl_inRange (v0.2,(0,v5))).bind fun v6=>
  some v6) else
 some false
noncomputable def spec_l28Set (v0:(List Int×List Int)):Option (List Int):=
 (spec_l27Sort v0.1).bind fun v1=>
 Pu.loop (fun (v2:(Int×List Int))=>
  let v3:Int:=((v1).length:Int)
  let v4:Bool:=decide (v2.1<v3)
  bif v4 then (
   (gin (v1).length v2.1).bind fun _=>
   (gget 0 v1 v2.1).bind fun v6=>
   let v7:Bool:=decide (0<v6)
   bif v7 then (
    (gin (v1).length v2.1).bind fun _=>
    (gget 0 v1 v2.1).bind fun v9=>
    (spec_l13Has (v0.2,v9)).bind fun v10=>
    let v11:Bool:= !v10
    bif v11 then (
     let v12:Int:=((v2.2).length:Int)
     let v13:Bool:=decide (v12=0)
     bif v13 then (
      (gin (v1).length v2.1).bind fun _=>
      (gget 0 v1 v2.1).bind fun v15=>
      let v16:List Int:=[v15]
      (gapp 8 v2.2 v16).bind fun v17=>
      let v18:Int:=wrap .i64 (v2.1+1)
      some (.inl (v18,v17))) else
     let v14:Int:=((v2.2).length:Int)
     let v15:Int:=wrap .i64 (v14 - 1)
     (gin (v2.2).length v15).bind fun _=>
     (gget 0 v2.2 v15).bind fun v17=>
     (gin (v1).length v2.1).bind fun _=>
     (gget 0 v1 v2.1).bind fun v19=>
     let v20:Bool:=decide (v17≠v19)
     bif v20 then (
      (gin (v1).length v2.1).bind fun _=>
      (gget 0 v1 v2.1).bind fun v22=>
      let v23:List Int:=[v22]
      (gapp 8 v2.2 v23).bind fun v24=>
      let v25:Int:=wrap .i64 (v2.1+1)
      some (.inl (v25,v24))) else
     let v21:Int:=wrap .i64 (v2.1+1)
     some (.inl (v21,v2.2))) else
    let v12:Int:=wrap .i64 (v2.1+1)
    some (.inl (v12,v2.2))) else
   let v8:Int:=wrap .i64 (v2.1+1)
   some (.inl (v8,v2.2))) else
  Option.map Sum.inr (
   some v2.2)) (0,([]:List Int))
noncomputable def spec_LutNetOk (v0:(Int×(List (Int×(Int×List Int))×(List (List Int×Int)×List Int)))):Option Bool:=
 (spec_LutNodes v0).bind fun v1=>
 let v2:Bool:=decide (v1=0)
 bif v2 then (
  some false) else
 (spec_l20Below (v0.2.2.2,v1)).bind fun v3=>
 let v4:Bool:= !v3
 bif v4 then (
  some false) else
 Pu.loop (fun (v5:Int)=>
  let v6:Int:=((v0.2.1).length:Int)
  let v7:Bool:=decide (v5<v6)
  bif v7 then (
   (gget (0,(0,[])) v0.2.1 v5).bind fun v8=>
   let v9:Bool:=decide (v8.1=0)
   bif v9 then (
    (spec_l01In (v8.2.1,(0,1))).bind fun v10=>
    bif v10 then (
     let v11:Int:=((v8.2.2).length:Int)
     let v12:Bool:=decide (v11=1)
     bif v12 then (
      (spec_l20Below (v8.2.2,v1)).bind fun v13=>
      let v14:Bool:= !v13
      bif v14 then (
       Option.map Sum.inr (
        some false)) else
      let v15:Int:=wrap .i64 (v5+1)
      some (.inl v15)) else
     let v13:Bool:=decide (v8.1=1)
     bif v13 then (
      (spec_l01In (v8.2.1,(0,31))).bind fun v14=>
      bif v14 then (
       let v15:Int:=((v8.2.2).length:Int)
       let v16:Bool:=decide (v15=4)
       let v17:Bool:= !v16
       bif v17 then (
        Option.map Sum.inr (
         some false)) else
       (spec_l20Below (v8.2.2,v1)).bind fun v18=>
       let v19:Bool:= !v18
       bif v19 then (
        Option.map Sum.inr (
         some false)) else
       let v20:Int:=wrap .i64 (v5+1)
       some (.inl v20)) else
      Option.map Sum.inr (
       some false)) else
     Option.map Sum.inr (
      some false)) else
    let v11:Bool:=decide (v8.1=1)
    bif v11 then (
     (spec_l01In (v8.2.1,(0,31))).bind fun v12=>
     bif v12 then (
      let v13:Int:=((v8.2.2).length:Int)
      let v14:Bool:=decide (v13=4)
      let v15:Bool:= !v14
      bif v15 then (
       Option.map Sum.inr (
        some false)) else
      (spec_l20Below (v8.2.2,v1)).bind fun v16=>
      let v17:Bool:= !v16
      bif v17 then (
       Option.map Sum.inr (
        some false)) else
      let v18:Int:=wrap .i64 (v5+1)
      some (.inl v18)) else
     Option.map Sum.inr (
      some false)) else
    Option.map Sum.inr (
     some false)) else
   let v10:Bool:=decide (v8.1=1)
   bif v10 then (
    (spec_l01In (v8.2.1,(0,31))).bind fun v11=>
    bif v11 then (
     let v12:Int:=((v8.2.2).length:Int)
     let v13:Bool:=decide (v12=4)
     let v14:Bool:= !v13
     bif v14 then (
      Option.map Sum.inr (
       some false)) else
     (spec_l20Below (v8.2.2,v1)).bind fun v15=>
     let v16:Bool:= !v15
     bif v16 then (
      Option.map Sum.inr (
       some false)) else
     let v17:Int:=wrap .i64 (v5+1)
     some (.inl v17)) else
    Option.map Sum.inr (
     some false)) else
   Option.map Sum.inr (
    some false)) else
  Option.map Sum.inr (
   Pu.loop (fun (v8:Int)=>
    let v9:Int:=((v0.2.2.1).length:Int)
    let v10:Bool:=decide (v8<v9)
    bif v10 then (
     (gget ([],0) v0.2.2.1 v8).bind fun v11=>
     let v12:Int:=((v11.1).length:Int)
     (spec_TableOk (v12,v11.2)).bind fun v13=>
     let v14:Bool:= !v13
     bif v14 then (
      Option.map Sum.inr (
       some false)) else
     (spec_l20First v0).bind fun v15=>
     let v16:Int:=wrap .i64 (v15+v8)
     (spec_l20Below (v11.1,v16)).bind fun v17=>
     let v18:Bool:= !v17
     bif v18 then (
      Option.map Sum.inr (
       some false)) else
     let v19:Int:=wrap .i64 (v8+1)
     some (.inl v19)) else
    Option.map Sum.inr (
     some true)) 0)) 0
noncomputable def spec_l28Uses (v0:(Int×(List (Int×(Int×List Int))×(List (List Int×Int)×List Int)))):Option (List Int):=
 (spec_LutNodes v0).bind fun v1=>
 (gmake 8 (0:Int) v1).bind fun v2=>
 Pu.loop (fun (v3:(Int×List Int))=>
  let v4:Int:=((v0.2.2.1).length:Int)
  let v5:Bool:=decide (v3.1<v4)
  bif v5 then (
   Pu.loop (fun (v6:(Int×List Int))=>
    (gget ([],0) v0.2.2.1 v3.1).bind fun v7=>
    let v8:Int:=((v7.1).length:Int)
    let v9:Bool:=decide (v6.1<v8)
    bif v9 then (
     (gget ([],0) v0.2.2.1 v3.1).bind fun v10=>
     (gget 0 v10.1 v6.1).bind fun v11=>
     (gin (v6.2).length v11).bind fun _=>
     (gget 0 v6.2 v11).bind fun v13=>
     let v14:Int:=wrap .i64 (v13+1)
     (gin (v6.2).length v11).bind fun _=>
     (gget 0 v6.2 v11).bind fun v16=>
     let v17:Int:=v14
     let v18:List Int:=gset v6.2 v11 v17
     let v19:Int:=wrap .i64 (v6.1+1)
     some (.inl (v19,v18))) else
    Option.map Sum.inr (
     let v10:Int:=wrap .i64 (v3.1+1)
     some (.inl (v10,v6.2)))) (0,v3.2)) else
  Option.map Sum.inr (
   Pu.loop (fun (v6:(Int×List Int))=>
    let v7:Int:=((v0.2.1).length:Int)
    let v8:Bool:=decide (v6.1<v7)
    bif v8 then (
     Pu.loop (fun (v9:(Int×List Int))=>
      (gget (0,(0,[])) v0.2.1 v6.1).bind fun v10=>
      let v11:Int:=((v10.2.2).length:Int)
      let v12:Bool:=decide (v9.1<v11)
      bif v12 then (
       (gget (0,(0,[])) v0.2.1 v6.1).bind fun v13=>
       (gget 0 v13.2.2 v9.1).bind fun v14=>
       (gin (v9.2).length v14).bind fun _=>
       (gget 0 v9.2 v14).bind fun v16=>
       let v17:Int:=wrap .i64 (v16+1)
       (gin (v9.2).length v14).bind fun _=>
       (gget 0 v9.2 v14).bind fun v19=>
       let v20:Int:=v17
       let v21:List Int:=gset v9.2 v14 v20
       let v22:Int:=wrap .i64 (v9.1+1)
       some (.inl (v22,v21))) else
      Option.map Sum.inr (
       let v13:Int:=wrap .i64 (v6.1+1)
       some (.inl (v13,v9.2)))) (0,v6.2)) else
    Option.map Sum.inr (
     Pu.loop (fun (v9:(Int×List Int))=>
      let v10:Int:=((v0.2.2.2).length:Int)
      let v11:Bool:=decide (v9.1<v10)
      bif v11 then (
       (gget 0 v0.2.2.2 v9.1).bind fun v12=>
       (gin (v9.2).length v12).bind fun _=>
       (gget 0 v9.2 v12).bind fun v14=>
       let v15:Int:=wrap .i64 (v14+1)
       (gin (v9.2).length v12).bind fun _=>
       (gget 0 v9.2 v12).bind fun v17=>
       let v18:Int:=v15
       let v19:List Int:=gset v9.2 v12 v18
       let v20:Int:=wrap .i64 (v9.1+1)
       some (.inl (v20,v19))) else
      Option.map Sum.inr (
       some v9.2)) (0,v6.2))) (0,v3.2))) (0,v2)
noncomputable def impl_LutNetOk (v0:(Int×(List (Int×(Int×List Int))×(List (List Int×Int)×List Int)))):Option Bool:=
 (impl_LutNodes v0).bind fun v1=>
 let v2:Bool:=decide (v1=0)
 bif v2 then (
  some false) else
 (impl_nodesBelow (v0.2.2.2,v1)).bind fun v3=>
 let v4:Bool:= !v3
 bif v4 then (
  some false) else
 let v5:Int:=((v0.2.1).length:Int)
 Pu.loop (fun (v6:Int)=>
  let v7:Bool:=decide (v6<v5)
  bif v7 then (
   (gget (0,(0,[])) v0.2.1 v6).bind fun v8=>
   (impl_seqOk v8).bind fun v9=>
   let v10:Bool:= !v9
   bif v10 then (
    Option.map Sum.inr (
     some false)) else
   (impl_nodesBelow (v8.2.2,v1)).bind fun v11=>
   let v12:Bool:= !v11
   bif v12 then (
    Option.map Sum.inr (
     some false)) else
   let v13:Int:=wrap .i64 (v6+1)
   some (.inl v13)) else
  Option.map Sum.inr (
   let v8:Int:=((v0.2.2.1).length:Int)
   Pu.loop (fun (v9:Int)=>
    let v10:Bool:=decide (v9<v8)
    bif v10 then (
     (gget ([],0) v0.2.2.1 v9).bind fun v11=>
     let v12:Int:=((v11.1).length:Int)
     let v13:Bool:=decide (4<v12)
     bif v13 then (
      Option.map Sum.inr (
       some false)) else
     (impl_firstLut v0).bind fun v14=>
     let v15:Int:=wrap .i64 (v14+v9)
     (impl_nodesBelow (v11.1,v15)).bind fun v16=>
     let v17:Bool:= !v16
     bif v17 then (
      Option.map Sum.inr (
       some false)) else
     let v18:Int:=((v11.1).length:Int)
     (impl_TableOk (v18,v11.2)).bind fun v19=>
     let v20:Bool:= !v19
     bif v20 then (
      Option.map Sum.inr (
       some false)) else
     let v21:Int:=wrap .i64 (v9+1)
     some (.inl v21)) else
    Option.map Sum.inr (
     some true)) 0)) 0
noncomputable def spec_l28Ins (v0:((Int×(List (Int×(Int×List Int))×(List (List Int×Int)×List Int)))×(Int×Int))):Option (List Int):=
 let v1:Bool:=decide (0<=v0.2.1)
 bif v1 then (
  (gget ([],0) v0.1.2.2.1 v0.2.1).bind fun v2=>
  (spec_l28Set (v2.1,([]:List Int))).bind fun v3=>
  some v3) else
 (gget (0,(0,[])) v0.1.2.1 v0.2.2).bind fun v2=>
 (spec_l28Set (v2.2.2,([]:List Int))).bind fun v3=>
 some v3
noncomputable def impl_pinNodes (v0:((Int×(List (Int×(Int×List Int))×(List (List Int×Int)×List Int)))×(Int×(Int×List (Int×Int))))):Option (List Int):=
 let v1:Bool:=decide (v0.2.1=0)
 bif v1 then (
  some ([]:List Int)) else
 let v2:Bool:=decide (v0.2.1=1)
 bif v2 then (
  (gget 0 v0.1.2.2.2 v0.2.2.1).bind fun v3=>
  let v4:List Int:=[v3]
  some v4) else
 let v3:Bool:=decide (v0.2.1=2)
 bif v3 then (
  (gget (0,(0,[])) v0.1.2.1 v0.2.2.1).bind fun v4=>
  (impl_copyInts v4.2.2).bind fun v5=>
  some v5) else
 let v4:Int:=((v0.2.2.2).length:Int)
 Pu.loop (fun (v5:(List Int×Int))=>
  let v6:Bool:=decide (v5.2<v4)
  bif v6 then (
   (gget (0,0) v0.2.2.2 v5.2).bind fun v7=>
   (impl_leOutput (v0.1,v7)).bind fun v8=>
   let v9:List Int:=[v8]
   (gapp 8 v5.1 v9).bind fun v10=>
   let v11:Int:=wrap .i64 (v5.2+1)
   some (.inl (v10,v11))) else
  Option.map Sum.inr (
   let v7:Int:=((v0.2.2.2).length:Int)
   Pu.loop (fun (v8:(List Int×Int))=>
    let v9:Bool:=decide (v8.2<v7)
    bif v9 then (
     (gget (0,0) v0.2.2.2 v8.2).bind fun v10=>
     (impl_leInputs (v0.1,v10)).bind fun v11=>
     let v12:Int:=((v11).length:Int)
     Pu.loop (fun (v13:(Int×List Int))=>
      let v14:Bool:=decide (v13.1<v12)
      bif v14 then (
       (gin (v11).length v13.1).bind fun _=>
       (gget 0 v11 v13.1).bind fun v16=>
       (impl_hasInt (v5.1,v16)).bind fun v17=>
       let v18:Bool:= !v17
       bif v18 then (
        (impl_insertInt (v13.2,v16)).bind fun v19=>
        let v20:Int:=wrap .i64 (v13.1+1)
        some (.inl (v20,v19))) else
       let v19:Int:=wrap .i64 (v13.1+1)
       some (.inl (v19,v13.2))) else
      Option.map Sum.inr (
       let v15:Int:=wrap .i64 (v8.2+1)
       some (.inl (v13.2,v15)))) (0,v8.1)) else
    Option.map Sum.inr (
     some v8.1)) (([]:List Int),0))) (([]:List Int),0)
noncomputable def spec_l28Le (v0:((Int×(List (Int×(Int×List Int))×(List (List Int×Int)×List Int)))×(Int×Int))):Option Bool:=
 joinO (
  let v1:Int:=((v0.1.2.2.1).length:Int)
  let v2:Int:=wrap .i64 (v1 - 1)
  (spec_l01In (v0.2.1,((-1),v2))).bind fun v3=>
  let v4:Bool:= !v3
  bif v4 then (
   Option.map Sum.inr (
    some false)) else
  let v5:Int:=((v0.1.2.1).length:Int)
  let v6:Int:=wrap .i64 (v5 - 1)
  (spec_l01In (v0.2.2,((-1),v6))).bind fun v7=>
  let v8:Bool:= !v7
  bif v8 then (
   Option.map Sum.inr (
    some false)) else
  let v9:Bool:=decide (v0.2.1<0)
  bif v9 then (
   let v10:Bool:=decide (v0.2.2<0)
   bif v10 then (
    Option.map Sum.inr (
     some false)) else
   some (.inl ())) else
  some (.inl ())) (fun (v1:Unit)=>
  let v2:Bool:=decide (0<=v0.2.2)
  bif v2 then (
   (gget (0,(0,[])) v0.1.2.1 v0.2.2).bind fun v3=>
   let v4:Bool:=decide (v3.1≠0)
   bif v4 then (
    some false) else
   let v5:Bool:=decide (v0.2.1<0)
   bif v5 then (
    some true) else
   let v6:Bool:=decide (v0.2.2<0)
   bif v6 then (
    some true) else
   (spec_l20First v0.1).bind fun v7=>
   let v8:Int:=wrap .i64 (v7+v0.2.1)
   (gget (0,(0,[])) v0.1.2.1 v0.2.2).bind fun v9=>
   (gget 0 v9.2.2 0).bind fun v10=>
   let v11:Bool:=decide (v10=v8)
   bif v11 then (
    (spec_l28Uses v0.1).bind fun v12=>
    (gin (v12).length v8).bind fun _=>
    (gget 0 v12 v8).bind fun v14=>
    let v15:Bool:=decide (v14=1)
    some v15) else
   some false) else
  let v3:Bool:=decide (v0.2.1<0)
  bif v3 then (
   some true) else
  let v4:Bool:=decide (v0.2.2<0)
  bif v4 then (
   some true) else
  (spec_l20First v0.1).bind fun v5=>
  let v6:Int:=wrap .i64 (v5+v0.2.1)
  (gget (0,(0,[])) v0.1.2.1 v0.2.2).bind fun v7=>
  (gget 0 v7.2.2 0).bind fun v8=>
  let v9:Bool:=decide (v8=v6)
  bif v9 then (
   (spec_l28Uses v0.1).bind fun v10=>
   (gin (v10).length v6).bind fun _=>
   (gget 0 v10 v6).bind fun v12=>
   let v13:Bool:=decide (v12=1)
   some v13) else
  some false)
noncomputable def spec_l28Pins (v0:((Int×(List (Int×(Int×List Int))×(List (List Int×Int)×List Int)))×List (Int×Int))):Option (List Int):=
 Pu.loop (fun (v1:(Int×(List Int×List Int)))=>
  let v2:Int:=((v0.2).length:Int)
  let v3:Bool:=decide (v1.1<v2)
  bif v3 then (
   (gget (0,0) v0.2 v1.1).bind fun v4=>
   (spec_l28Ins (v0.1,v4)).bind fun v5=>
   (gapp 8 v1.2.1 v5).bind fun v6=>
   (gget (0,0) v0.2 v1.1).bind fun v7=>
   (spec_l28Out (v0.1,v7)).bind fun v8=>
   let v9:List Int:=[v8]
   (gapp 8 v1.2.2 v9).bind fun v10=>
   let v11:Int:=wrap .i64 (v1.1+1)
   some (.inl (v11,(v6,v10)))) else
  Option.map Sum.inr (
   (spec_l28Set v1.2).bind fun v4=>
   some v4)) (0,(([]:List Int),([]:List Int)))
noncomputable def spec_l28Known (v0:((Int×(List (Int×(Int×List Int))×(List (List Int×Int)×List Int)))×(Int×(Int×List (Int×Int))))):Option Bool:=
 (spec_LutNetOk v0.1).bind fun v1=>
 let v2:Bool:= !v1
 bif v2 then (
  some false) else
 let v3:Bool:=decide (v0.2.1=0)
 bif v3 then (
  let v4:Bool:=decide (0<=v0.2.2.1)
  bif v4 then (
   let v5:Bool:=decide (v0.2.2.1<v0.1.1)
   some v5) else
  some false) else
 let v4:Bool:=decide (v0.2.1=1)
 bif v4 then (
  let v5:Bool:=decide (0<=v0.2.2.1)
  bif v5 then (
   let v6:Int:=((v0.1.2.2.2).length:Int)
   let v7:Bool:=decide (v0.2.2.1<v6)
   some v7) else
  some false) else
 let v5:Bool:=decide (v0.2.1=2)
 bif v5 then (
  let v6:Bool:=decide (0<=v0.2.2.1)
  bif v6 then (
   let v7:Int:=((v0.1.2.1).length:Int)
   let v8:Bool:=decide (v0.2.2.1<v7)
   some v8) else
  some false) else
 Pu.loop (fun (v6:Int)=>
  let v7:Int:=((v0.2.2.2).length:Int)
  let v8:Bool:=decide (v6<v7)
  bif v8 then (
   (gget (0,0) v0.2.2.2 v6).bind fun v9=>
   (spec_l28Le (v0.1,v9)).bind fun v10=>
   let v11:Bool:= !v10
   bif v11 then (
    Option.map Sum.inr (
     some false)) else
   let v12:Int:=wrap .i64 (v6+1)
   some (.inl v12)) else
  Option.map Sum.inr (
   let v9:Bool:=decide (v0.2.1=3)
   some v9)) 0
noncomputable def spec_OutNodes (v0:((Int×(List (Int×(Int×List Int))×(List (List Int×Int)×List Int)))×(Int×(Int×List (Int×Int))))):Option (List Int):=
 (spec_l28Known v0).bind fun v1=>
 let v2:Bool:= !v1
 bif v2 then (
  some ([]:List Int)) else
 let v3:Bool:=decide (v0.2.1=0)
 bif v3 then (
  let v4:Int:=wrap .i64 (1+v0.2.2.1)
  let v5:List Int:=[v4]
  some v5) else
 let v4:Bool:=decide (v0.2.1=1)
 bif v4 then (
  some ([]:List Int)) else
 let v5:Bool:=decide (v0.2.1=2)
 bif v5 then (
  let v6:Int:=wrap .i64 (1+v0.1.1)
  let v7:Int:=wrap .i64 (v6+v0.2.2.1)
  let v8:List Int:=[v7]
  some v8) else
 Pu.loop (fun (v6:(Int×List Int))=>
  let v7:Int:=((v0.2.2.2).length:Int)
  let v8:Bool:=decide (v6.1<v7)
  bif v8 then (
   (gget (0,0) v0.2.2.2 v6.1).bind fun v9=>
   (spec_l28Out (v0.1,v9)).bind fun v10=>
   let v11:List Int:=[v10]
   (gapp 8 v6.2 v11).bind fun v12=>
   let v13:Int:=wrap .i64 (v6.1+1)
   some (.inl (v13,v12))) else
  Option.map Sum.inr (
   some v6.2)) (0,([]:List Int))
noncomputable def spec_BlockOk (v0:((Int×(List (Int×(Int×List Int))×(List (List Int×Int)×List Int)))×(Int×(Int×List (Int×Int))))):Option Bool:=
 (spec_l28Known v0).bind fun v1=>
 let v2:Bool:= !v1
 bif v2 then (
  some false) else
 let v3:Bool:=decide (v0.2.1=3)
 bif v3 then (
  let v4:Bool:=decide (v0.2.2.1=0)
  bif v4 then (
   let v5:Int:=((v0.2.2.2).length:Int)
   (spec_l01In (v5,(1,2))).bind fun v6=>
   bif v6 then (
    (spec_l28Pins (v0.1,v0.2.2.2)).bind fun v7=>
    let v8:Int:=((v7).length:Int)
    let v9:Bool:=decide (v8<=5)
    some v9) else
   some false) else
  some false) else
 let v4:Int:=((v0.2.2.2).length:Int)
 let v5:Bool:=decide (v4=0)
 bif v5 then (
  let v6:Bool:=decide (v0.2.1≠2)
  bif v6 then (
   some true) else
  (gget (0,(0,[])) v0.1.2.1 v0.2.2.1).bind fun v7=>
  let v8:Bool:=decide (v7.1=1)
  some v8) else
 some false
noncomputable def spec_PinNodes (v0:((Int×(List (Int×(Int×List Int))×(List (List Int×Int)×List Int)))×(Int×(Int×List (Int×Int))))):Option (List Int):=
 (spec_l28Known v0).bind fun v1=>
 let v2:Bool:= !v1
 bif v2 then (
  some ([]:List Int)) else
 let v3:Bool:=decide (v0.2.1=0)
 bif v3 then (
  some ([]:List Int)) else
 let v4:Bool:=decide (v0.2.1=1)
 bif v4 then (
  (gget 0 v0.1.2.2.2 v0.2.2.1).bind fun v5=>
  let v6:List Int:=[v5]
  some v6) else
 let v5:Bool:=decide (v0.2.1=2)
 bif v5 then (
  (gget (0,(0,[])) v0.1.2.1 v0.2.2.1).bind fun v6=>
  (gapp 8 ([]:List Int) v6.2.2).bind fun v7=>
  some v7) else
 (spec_l28Pins (v0.1,v0.2.2.2)).bind fun v6=>
 some v6
noncomputable def impl_commonCount (v0:(List Int×List Int)):Option Int:=
 let v1:Int:=((v0.1).length:Int)
 Pu.loop (fun (v2:(Int×Int))=>
  let v3:Bool:=decide (v2.2<v1)
  bif v3 then (
   (gget 0 v0.1 v2.2).bind fun v4=>
   (impl_hasInt (v0.2,v4)).bind fun v5=>
   bif v5 then (
    let v6:Int:=wrap .i64 (v2.1+1)
    let v7:Int:=wrap .i64 (v2.2+1)
    some (.inl (v6,v7))) else
   let v6:Int:=wrap .i64 (v2.2+1)
   some (.inl (v2.1,v6))) else
  Option.map Sum.inr (
   some v2.1)) (0,0)
noncomputable def impl_elements (v0:(Int×(List (Int×(Int×List Int))×(List (List Int×Int)×List Int)))):Option (List (Int×Int)):=
 (impl_useCounts v0).bind fun v1=>
 let v2:Int:=((v0.2.2.1).length:Int)
 (gmake 1 (false:Bool) v2).bind fun v3=>
 let v4:Int:=((v0.2.1).length:Int)
 Pu.loop (fun (v5:(Int×(List (Int×Int)×List Bool)))=>
  let v6:Bool:=decide (v5.1<v4)
  bif v6 then (
   (gget (0,(0,[])) v0.2.1 v5.1).bind fun v7=>
   let v8:Bool:=decide (v7.1≠0)
   bif v8 then (
    let v9:Int:=wrap .i64 (v5.1+1)
    some (.inl (v9,v5.2))) else
   (gget 0 v7.2.2 0).bind fun v9=>
   (impl_firstLut v0).bind fun v10=>
   let v11:Int:=wrap .i64 (v9 - v10)
   let v12:Bool:=decide (0<=v11)
   bif v12 then (
    (gget 0 v7.2.2 0).bind fun v13=>
    (gin (v1).length v13).bind fun _=>
    (gget 0 v1 v13).bind fun v15=>
    let v16:Bool:=decide (v15=1)
    bif v16 then (
     (gin (v5.2.2).length v11).bind fun _=>
     (gget false v5.2.2 v11).bind fun v18=>
     let v19:Bool:=true
     let v20:List Bool:=gset v5.2.2 v11 v19
     let v21:List (Int×Int):=[(v11,v5.1)]
     (gapp 16 v5.2.1 v21).bind fun v22=>
     let v23:Int:=wrap .i64 (v5.1+1)
     some (.inl (v23,(v22,v20)))) else
    let v17:List (Int×Int):=[((-1),v5.1)]
    (gapp 16 v5.2.1 v17).bind fun v18=>
    let v19:Int:=wrap .i64 (v5.1+1)
    some (.inl (v19,(v18,v5.2.2)))) else
   let v13:List (Int×Int):=[((-1),v5.1)]
   (gapp 16 v5.2.1 v13).bind fun v14=>
   let v15:Int:=wrap .i64 (v5.1+1)
   some (.inl (v15,(v14,v5.2.2)))) else
  Option.map Sum.inr (
   let v7:Int:=((v0.2.2.1).length:Int)
   Pu.loop (fun (v8:(Int×List (Int×Int)))=>
    let v9:Bool:=decide (v8.1<v7)
    bif v9 then (
     (gin (v5.2.2).length v8.1).bind fun _=>
     (gget false v5.2.2 v8.1).bind fun v11=>
     let v12:Bool:= !v11
     bif v12 then (
      let v13:List (Int×Int):=[(v8.1,(-1))]
      (gapp 16 v8.2 v13).bind fun v14=>
      let v15:Int:=wrap .i64 (v8.1+1)
      some (.inl (v15,v14))) else
     let v13:Int:=wrap .i64 (v8.1+1)
     some (.inl (v13,v8.2))) else
    Option.map Sum.inr (
     some v8.2)) (0,v5.2.1))) (0,(([]:List (Int×Int)),v3))
noncomputable def impl_leNodes (v0:((Int×(List (Int×(Int×List Int))×(List (List Int×Int)×List Int)))×(Int×Int))):Option (List Int):=
 (impl_leInputs v0).bind fun v1=>
 (impl_leOutput v0).bind fun v2=>
 (impl_insertInt (v1,v2)).bind fun v3=>
 some v3
noncomputable def impl_Pack (v0:(Int×(List (Int×(Int×List Int))×(List (List Int×Int)×List Int)))):Option (List (Int×(Int×List (Int×Int)))×Bool):=
 (impl_LutNetOk v0).bind fun v1=>
 let v2:Bool:= !v1
 bif v2 then (
  some (([]:List (Int×(Int×List (Int×Int)))),false)) else
 Pu.loop (fun (v3:(List (Int×(Int×List (Int×Int)))×Int))=>
  let v4:Bool:=decide (v3.2<v0.1)
  bif v4 then (
   let v5:List (Int×(Int×List (Int×Int))):=[(0,(v3.2,([]:List (Int×Int))))]
   (gapp 40 v3.1 v5).bind fun v6=>
   let v7:Int:=wrap .i64 (v3.2+1)
   some (.inl (v6,v7))) else
  Option.map Sum.inr (
   let v5:Int:=((v0.2.2.2).length:Int)
   Pu.loop (fun (v6:(Int×List (Int×(Int×List (Int×Int)))))=>
    let v7:Bool:=decide (v6.1<v5)
    bif v7 then (
     let v8:List (Int×(Int×List (Int×Int))):=[(1,(v6.1,([]:List (Int×Int))))]
     (gapp 40 v6.2 v8).bind fun v9=>
     let v10:Int:=wrap .i64 (v6.1+1)
     some (.inl (v10,v9))) else
    Option.map Sum.inr (
     let v8:Int:=((v0.2.1).length:Int)
     Pu.loop (fun (v9:(Int×List (Int×(Int×List (Int×Int)))))=>
      let v10:Bool:=decide (v9.1<v8)
      bif v10 then (
       (gget (0,(0,[])) v0.2.1 v9.1).bind fun v11=>
       let v12:Bool:=decide (v11.1=1)
       bif v12 then (
        let v13:List (Int×(Int×List (Int×Int))):=[(2,(v9.1,([]:List (Int×Int))))]
        (gapp 40 v9.2 v13).bind fun v14=>
        let v15:Int:=wrap .i64 (v9.1+1)
        some (.inl (v15,v14))) else
       let v13:Int:=wrap .i64 (v9.1+1)
       some (.inl (v13,v9.2))) else
      Option.map Sum.inr (
       (impl_elements v0).bind fun v11=>
       Pu.loop (fun (v12:(List (Int×(Int×List (Int×Int)))×List (Int×Int)))=>
        let v13:Int:=((v12.2).length:Int)
        let v14:Bool:=decide (0<v13)
        bif v14 then (
         (gin (v12.2).length 0).bind fun _=>
         (gget (0,0) v12.2 0).bind fun v16=>
         let v17:List (Int×Int):=[v16]
         (impl_leNodes (v0,v16)).bind fun v18=>
         Pu.loop (fun (v19:(Int×(Int×Int)))=>
          let v20:Int:=((v12.2).length:Int)
          let v21:Bool:=decide (v19.2.2<v20)
          bif v21 then (
           joinO (
            (gin (v12.2).length v19.2.2).bind fun _=>
            (gget (0,0) v12.2 v19.2.2).bind fun v23=>
            let v24:List (Int×Int):=[v16,v23]
            some (.inl v24)) (fun (v22:List (Int×Int))=>
            (gin (v12.2).length v19.2.2).bind fun _=>
            (gget (0,0) v12.2 v19.2.2).bind fun v24=>
            (impl_leNodes (v0,v24)).bind fun v25=>
            (impl_commonCount (v18,v25)).bind fun v26=>
            (impl_pinNodes (v0,(3,(0,v22)))).bind fun v27=>
            let v28:Int:=((v27).length:Int)
            let v29:Bool:=decide (v28<=5)
            bif v29 then (
             let v30:Bool:=decide (v19.2.1<v26)
             bif v30 then (
              let v31:Int:=wrap .i64 (v19.2.2+1)
              some (.inl (v19.2.2,(v26,v31)))) else
             let v31:Int:=wrap .i64 (v19.2.2+1)
             some (.inl (v19.1,(v19.2.1,v31)))) else
            let v30:Int:=wrap .i64 (v19.2.2+1)
            some (.inl (v19.1,(v19.2.1,v30))))) else
          Option.map Sum.inr (
           let v22:Bool:=decide (0<v19.1)
           bif v22 then (
            (gin (v12.2).length v19.1).bind fun _=>
            (gget (0,0) v12.2 v19.1).bind fun v24=>
            let v25:List (Int×Int):=[v24]
            (gapp 16 v17 v25).bind fun v26=>
            (gslice v12.2 0 v19.1).bind fun v27=>
            let v28:Int:=wrap .i64 (v19.1+1)
            (gslice v12.2 v28 ((v12.2).length:Int)).bind fun v29=>
            (gapp 16 v27 v29).bind fun v30=>
            (gslice v30 1 ((v30).length:Int)).bind fun v31=>
            let v32:List (Int×(Int×List (Int×Int))):=[(3,(0,v26))]
            (gapp 40 v12.1 v32).bind fun v33=>
            some (.inl (v33,v31))) else
           (gslice v12.2 1 ((v12.2).length:Int)).bind fun v23=>
           let v24:List (Int×(Int×List (Int×Int))):=[(3,(0,v17))]
           (gapp 40 v12.1 v24).bind fun v25=>
           some (.inl (v25,v23)))) ((-1),((-1),1))) else
        Option.map Sum.inr (
         let v15:Int:=((v12.1).length:Int)
         let v16:Bool:=decide (64<v15)
         bif v16 then (
          some (([]:List (Int×(Int×List (Int×Int)))),false)) else
         some (v12.1,true))) (v9.2,v11))) (0,v6.2))) (0,v3.1))) (([]:List (Int×(Int×List (Int×Int)))),0)
noncomputable def spec_l28Les (v0:(Int×(List (Int×(Int×List Int))×(List (List Int×Int)×List Int)))):Option (List (Int×Int)):=
 (spec_l28Uses v0).bind fun v1=>
 let v2:Int:=((v0.2.2.1).length:Int)
 (gmake 1 (false:Bool) v2).bind fun v3=>
 Pu.loop (fun (v4:(Int×(List (Int×Int)×List Bool)))=>
  let v5:Int:=((v0.2.1).length:Int)
  let v6:Bool:=decide (v4.1<v5)
  bif v6 then (
   (gget (0,(0,[])) v0.2.1 v4.1).bind fun v7=>
   let v8:Bool:=decide (v7.1≠0)
   bif v8 then (
    let v9:Int:=wrap .i64 (v4.1+1)
    some (.inl (v9,v4.2))) else
   (gget (0,(0,[])) v0.2.1 v4.1).bind fun v9=>
   (gget 0 v9.2.2 0).bind fun v10=>
   (spec_l20First v0).bind fun v11=>
   let v12:Int:=wrap .i64 (v10 - v11)
   let v13:Bool:=decide (0<=v12)
   bif v13 then (
    (gget (0,(0,[])) v0.2.1 v4.1).bind fun v14=>
    (gget 0 v14.2.2 0).bind fun v15=>
    (gin (v1).length v15).bind fun _=>
    (gget 0 v1 v15).bind fun v17=>
    let v18:Bool:=decide (v17=1)
    bif v18 then (
     (gin (v4.2.2).length v12).bind fun _=>
     (gget false v4.2.2 v12).bind fun v20=>
     let v21:Bool:=true
     let v22:List Bool:=gset v4.2.2 v12 v21
     let v23:List (Int×Int):=[(v12,v4.1)]
     (gapp 16 v4.2.1 v23).bind fun v24=>
     let v25:Int:=wrap .i64 (v4.1+1)
     some (.inl (v25,(v24,v22)))) else
    let v19:List (Int×Int):=[((-1),v4.1)]
    (gapp 16 v4.2.1 v19).bind fun v20=>
    let v21:Int:=wrap .i64 (v4.1+1)
    some (.inl (v21,(v20,v4.2.2)))) else
   let v14:List (Int×Int):=[((-1),v4.1)]
   (gapp 16 v4.2.1 v14).bind fun v15=>
   let v16:Int:=wrap .i64 (v4.1+1)
   some (.inl (v16,(v15,v4.2.2)))) else
  Option.map Sum.inr (
   Pu.loop (fun (v7:(Int×List (Int×Int)))=>
    let v8:Int:=((v0.2.2.1).length:Int)
    let v9:Bool:=decide (v7.1<v8)
    bif v9 then (
     (gin (v4.2.2).length v7.1).bind fun _=>
     (gget false v4.2.2 v7.1).bind fun v11=>
     let v12:Bool:= !v11
     bif v12 then (
      let v13:List (Int×Int):=[(v7.1,(-1))]
      (gapp 16 v7.2 v13).bind fun v14=>
      let v15:Int:=wrap .i64 (v7.1+1)
      some (.inl (v15,v14))) else
     let v13:Int:=wrap .i64 (v7.1+1)
     some (.inl (v13,v7.2))) else
    Option.map Sum.inr (
     some v7.2)) (0,v4.2.1))) (0,(([]:List (Int×Int)),v3))
noncomputable def spec_l28Common (v0:((Int×(List (Int×(Int×List Int))×(List (List Int×Int)×List Int)))×((Int×Int)×(Int×Int)))):Option Int:=
 (spec_l28Ins (v0.1,v0.2.1)).bind fun v1=>
 (spec_l28Out (v0.1,v0.2.1)).bind fun v2=>
 let v3:List Int:=[v2]
 (gapp 8 v1 v3).bind fun v4=>
 (spec_l28Ins (v0.1,v0.2.2)).bind fun v5=>
 (spec_l28Out (v0.1,v0.2.2)).bind fun v6=>
 let v7:List Int:=[v6]
 (gapp 8 v5 v7).bind fun v8=>
 (spec_l28Set (v4,([]:List Int))).bind fun v9=>
 Pu.loop (fun (v10:(Int×Int))=>
  let v11:Int:=((v9).length:Int)
  let v12:Bool:=decide (v10.2<v11)
  bif v12 then (
   (gin (v9).length v10.2).bind fun _=>
   (gget 0 v9 v10.2).bind fun v14=>
   (spec_l13Has (v8,v14)).bind fun v15=>
   (spec_l07Bit v15).bind fun v16=>
   let v17:Int:=wrap .i64 (v10.1+v16)
   let v18:Int:=wrap .i64 (v10.2+1)
   some (.inl (v17,v18))) else
  Option.map Sum.inr (
   some v10.1)) (0,0)
noncomputable def spec_Pack (v0:(Int×(List (Int×(Int×List Int))×(List (List Int×Int)×List Int)))):Option (List (Int×(Int×List (Int×Int)))×Bool):=
 (spec_LutNetOk v0).bind fun v1=>
 let v2:Bool:= !v1
 bif v2 then (
  some (([]:List (Int×(Int×List (Int×Int)))),false)) else
 Pu.loop (fun (v3:(Int×List (Int×(Int×List (Int×Int)))))=>
  let v4:Bool:=decide (v3.1<v0.1)
  bif v4 then (
   let v5:List (Int×(Int×List (Int×Int))):=[(0,(v3.1,([]:List (Int×Int))))]
   (gapp 40 v3.2 v5).bind fun v6=>
   let v7:Int:=wrap .i64 (v3.1+1)
   some (.inl (v7,v6))) else
  Option.map Sum.inr (
   Pu.loop (fun (v5:(Int×List (Int×(Int×List (Int×Int)))))=>
    let v6:Int:=((v0.2.2.2).length:Int)
    let v7:Bool:=decide (v5.1<v6)
    bif v7 then (
     let v8:List (Int×(Int×List (Int×Int))):=[(1,(v5.1,([]:List (Int×Int))))]
     (gapp 40 v5.2 v8).bind fun v9=>
     let v10:Int:=wrap .i64 (v5.1+1)
     some (.inl (v10,v9))) else
    Option.map Sum.inr (
     Pu.loop (fun (v8:(Int×List (Int×(Int×List (Int×Int)))))=>
      let v9:Int:=((v0.2.1).length:Int)
      let v10:Bool:=decide (v8.1<v9)
      bif v10 then (
       (gget (0,(0,[])) v0.2.1 v8.1).bind fun v11=>
       let v12:Bool:=decide (v11.1=1)
       bif v12 then (
        let v13:List (Int×(Int×List (Int×Int))):=[(2,(v8.1,([]:List (Int×Int))))]
        (gapp 40 v8.2 v13).bind fun v14=>
        let v15:Int:=wrap .i64 (v8.1+1)
        some (.inl (v15,v14))) else
       let v13:Int:=wrap .i64 (v8.1+1)
       some (.inl (v13,v8.2))) else
      Option.map Sum.inr (
       (spec_l28Les v0).bind fun v11=>
       let v12:Int:=((v11).length:Int)
       (gmake 1 (false:Bool) v12).bind fun v13=>
       Pu.loop (fun (v14:(Int×(List (Int×(Int×List (Int×Int)))×List Bool)))=>
        let v15:Int:=((v11).length:Int)
        let v16:Bool:=decide (v14.1<v15)
        bif v16 then (
         (gin (v14.2.2).length v14.1).bind fun _=>
         (gget false v14.2.2 v14.1).bind fun v18=>
         bif v18 then (
          let v19:Int:=wrap .i64 (v14.1+1)
          some (.inl (v19,v14.2))) else
         let v19:Int:=((v14.2.1).length:Int)
         let v20:Bool:=decide (v19=64)
         bif v20 then (
          Option.map Sum.inr (
           some (([]:List (Int×(Int×List (Int×Int)))),false))) else
         let v21:Int:=wrap .i64 (v14.1+1)
         Pu.loop (fun (v22:(Int×(Int×Int)))=>
          let v23:Int:=((v11).length:Int)
          let v24:Bool:=decide (v22.1<v23)
          bif v24 then (
           (gin (v14.2.2).length v22.1).bind fun _=>
           (gget false v14.2.2 v22.1).bind fun v26=>
           bif v26 then (
            let v27:Int:=wrap .i64 (v22.1+1)
            some (.inl (v27,v22.2))) else
           (gin (v11).length v14.1).bind fun _=>
           (gget (0,0) v11 v14.1).bind fun v28=>
           (gin (v11).length v22.1).bind fun _=>
           (gget (0,0) v11 v22.1).bind fun v30=>
           let v31:List (Int×Int):=[v28,v30]
           (spec_l28Pins (v0,v31)).bind fun v32=>
           let v33:Int:=((v32).length:Int)
           let v34:Bool:=decide (5<v33)
           bif v34 then (
            let v35:Int:=wrap .i64 (v22.1+1)
            some (.inl (v35,v22.2))) else
           (gin (v11).length v14.1).bind fun _=>
           (gget (0,0) v11 v14.1).bind fun v36=>
           (gin (v11).length v22.1).bind fun _=>
           (gget (0,0) v11 v22.1).bind fun v38=>
           (spec_l28Common (v0,(v36,v38))).bind fun v39=>
           let v40:Bool:=decide (v22.2.2<v39)
           bif v40 then (
            let v41:Int:=wrap .i64 (v22.1+1)
            some (.inl (v41,(v22.1,v39)))) else
           let v41:Int:=wrap .i64 (v22.1+1)
           some (.inl (v41,v22.2))) else
          Option.map Sum.inr (
           (gin (v11).length v14.1).bind fun _=>
           (gget (0,0) v11 v14.1).bind fun v26=>
           let v27:List (Int×Int):=[v26]
           let v28:Bool:=decide (0<=v22.2.1)
           bif v28 then (
            (gin (v11).length v22.2.1).bind fun _=>
            (gget (0,0) v11 v22.2.1).bind fun v30=>
            let v31:List (Int×Int):=[v30]
            (gapp 16 v27 v31).bind fun v32=>
            (gin (v14.2.2).length v22.2.1).bind fun _=>
            (gget false v14.2.2 v22.2.1).bind fun v34=>
            let v35:Bool:=true
            let v36:List Bool:=gset v14.2.2 v22.2.1 v35
            let v37:List (Int×(Int×List (Int×Int))):=[(3,(0,v32))]
            (gapp 40 v14.2.1 v37).bind fun v38=>
            let v39:Int:=wrap .i64 (v14.1+1)
            some (.inl (v39,(v38,v36)))) else
           let v29:List (Int×(Int×List (Int×Int))):=[(3,(0,v27))]
           (gapp 40 v14.2.1 v29).bind fun v30=>
           let v31:Int:=wrap .i64 (v14.1+1)
           some (.inl (v31,(v30,v14.2.2))))) (v21,((-1),(-1)))) else
        Option.map Sum.inr (
         let v17:Int:=((v14.2.1).length:Int)
         let v18:Bool:=decide (v17<=64)
         some (v14.2.1,v18))) (0,(v8.2,v13)))) (0,v5.2))) (0,v3.2))) (0,([]:List (Int×(Int×List (Int×Int)))))
noncomputable def spec_PackOk (v0:((Int×(List (Int×(Int×List Int))×(List (List Int×Int)×List Int)))×List (Int×(Int×List (Int×Int))))):Option Bool:=
 (spec_LutNetOk v0.1).bind fun v1=>
 let v2:Bool:= !v1
 bif v2 then (
  some false) else
 let v3:Int:=((v0.2).length:Int)
 let v4:Bool:=decide (64<v3)
 bif v4 then (
  some false) else
 (gmake 8 (0:Int) v0.1.1).bind fun v5=>
 let v6:Int:=((v0.1.2.2.2).length:Int)
 (gmake 8 (0:Int) v6).bind fun v7=>
 let v8:Int:=((v0.1.2.1).length:Int)
 (gmake 8 (0:Int) v8).bind fun v9=>
 let v10:Int:=((v0.1.2.2.1).length:Int)
 (gmake 8 (0:Int) v10).bind fun v11=>
 Pu.loop (fun (v12:(Int×(List Int×(List Int×(List Int×List Int)))))=>
  let v13:Int:=((v0.2).length:Int)
  let v14:Bool:=decide (v12.1<v13)
  bif v14 then (
   (gget (0,(0,[])) v0.2 v12.1).bind fun v15=>
   (spec_BlockOk (v0.1,v15)).bind fun v16=>
   let v17:Bool:= !v16
   bif v17 then (
    Option.map Sum.inr (
     some false)) else
   joinO (
    let v18:Bool:=decide (v15.1=0)
    bif v18 then (
     (gin (v12.2.1).length v15.2.1).bind fun _=>
     (gget 0 v12.2.1 v15.2.1).bind fun v20=>
     let v21:Int:=wrap .i64 (v20+1)
     (gin (v12.2.1).length v15.2.1).bind fun _=>
     (gget 0 v12.2.1 v15.2.1).bind fun v23=>
     let v24:Int:=v21
     let v25:List Int:=gset v12.2.1 v15.2.1 v24
     some (.inl (v25,(v12.2.2.1,v12.2.2.2.1)))) else
    let v19:Bool:=decide (v15.1=1)
    bif v19 then (
     (gin (v12.2.2.1).length v15.2.1).bind fun _=>
     (gget 0 v12.2.2.1 v15.2.1).bind fun v21=>
     let v22:Int:=wrap .i64 (v21+1)
     (gin (v12.2.2.1).length v15.2.1).bind fun _=>
     (gget 0 v12.2.2.1 v15.2.1).bind fun v24=>
     let v25:Int:=v22
     let v26:List Int:=gset v12.2.2.1 v15.2.1 v25
     some (.inl (v12.2.1,(v26,v12.2.2.2.1)))) else
    let v20:Bool:=decide (v15.1=2)
    bif v20 then (
     (gin (v12.2.2.2.1).length v15.2.1).bind fun _=>
     (gget 0 v12.2.2.2.1 v15.2.1).bind fun v22=>
     let v23:Int:=wrap .i64 (v22+1)
     (gin (v12.2.2.2.1).length v15.2.1).bind fun _=>
     (gget 0 v12.2.2.2.1 v15.2.1).bind fun v25=>
     let v26:Int:=v23
     let v27:List Int:=gset v12.2.2.2.1 v15.2.1 v26
     some (.inl (v12.2.1,(v12.2.2.1,v27)))) else
    some (.inl (v12.2.1,(v12.2.2.1,v12.2.2.2.1)))) (fun (v18:(List Int×(List Int×List Int)))=>
    Pu.loop (fun (v19:(Int×(List Int×List Int)))=>
     let v20:Int:=((v15.2.2).length:Int)
     let v21:Bool:=decide (v19.1<v20)
     bif v21 then (
      (gget (0,0) v15.2.2 v19.1).bind fun v22=>
      let v23:Bool:=decide (0<=v22.1)
      bif v23 then (
       (gget (0,0) v15.2.2 v19.1).bind fun v24=>
       (gin (v19.2.2).length v24.1).bind fun _=>
       (gget 0 v19.2.2 v24.1).bind fun v26=>
       let v27:Int:=wrap .i64 (v26+1)
       (gin (v19.2.2).length v24.1).bind fun _=>
       (gget 0 v19.2.2 v24.1).bind fun v29=>
       let v30:Int:=v27
       let v31:List Int:=gset v19.2.2 v24.1 v30
       (gget (0,0) v15.2.2 v19.1).bind fun v32=>
       let v33:Bool:=decide (0<=v32.2)
       bif v33 then (
        (gget (0,0) v15.2.2 v19.1).bind fun v34=>
        (gin (v19.2.1).length v34.2).bind fun _=>
        (gget 0 v19.2.1 v34.2).bind fun v36=>
        let v37:Int:=wrap .i64 (v36+1)
        (gin (v19.2.1).length v34.2).bind fun _=>
        (gget 0 v19.2.1 v34.2).bind fun v39=>
        let v40:Int:=v37
        let v41:List Int:=gset v19.2.1 v34.2 v40
        let v42:Int:=wrap .i64 (v19.1+1)
        some (.inl (v42,(v41,v31)))) else
       let v34:Int:=wrap .i64 (v19.1+1)
       some (.inl (v34,(v19.2.1,v31)))) else
      (gget (0,0) v15.2.2 v19.1).bind fun v24=>
      let v25:Bool:=decide (0<=v24.2)
      bif v25 then (
       (gget (0,0) v15.2.2 v19.1).bind fun v26=>
       (gin (v19.2.1).length v26.2).bind fun _=>
       (gget 0 v19.2.1 v26.2).bind fun v28=>
       let v29:Int:=wrap .i64 (v28+1)
       (gin (v19.2.1).length v26.2).bind fun _=>
       (gget 0 v19.2.1 v26.2).bind fun v31=>
       let v32:Int:=v29
       let v33:List Int:=gset v19.2.1 v26.2 v32
       let v34:Int:=wrap .i64 (v19.1+1)
       some (.inl (v34,(v33,v19.2.2)))) else
      let v26:Int:=wrap .i64 (v19.1+1)
      some (.inl (v26,v19.2))) else
     Option.map Sum.inr (
      let v22:Int:=wrap .i64 (v12.1+1)
      some (.inl (v22,(v18.1,(v18.2.1,v19.2)))))) (0,(v18.2.2,v12.2.2.2.2)))) else
  Option.map Sum.inr (
   (gapp 8 v12.2.1 v12.2.2.1).bind fun v15=>
   (gapp 8 v15 v12.2.2.2.1).bind fun v16=>
   (gapp 8 v16 v12.2.2.2.2).bind fun v17=>
   Pu.loop (fun (v18:Int)=>
    let v19:Int:=((v17).length:Int)
    let v20:Bool:=decide (v18<v19)
    bif v20 then (
     (gin (v17).length v18).bind fun _=>
     (gget 0 v17 v18).bind fun v22=>
     let v23:Bool:=decide (v22≠1)
     bif v23 then (
      Option.map Sum.inr (
       some false)) else
     let v24:Int:=wrap .i64 (v18+1)
     some (.inl v24)) else
    Option.map Sum.inr (
     some true)) 0)) (0,(v5,(v7,(v9,v11))))
noncomputable def spec_ConnsOf (v0:((Int×(List (Int×(Int×List Int))×(List (List Int×Int)×List Int)))×List (Int×(Int×List (Int×Int))))):Option (List (Int×((Int×Int)×List (Int×Int)))):=
 (spec_PackOk v0).bind fun v1=>
 let v2:Bool:= !v1
 bif v2 then (
  some ([]:List (Int×((Int×Int)×List (Int×Int))))) else
 Pu.loop (fun (v3:(Int×List (List Int)))=>
  let v4:Int:=((v0.2).length:Int)
  let v5:Bool:=decide (v3.1<v4)
  bif v5 then (
   (gget (0,(0,[])) v0.2 v3.1).bind fun v6=>
   (spec_PinNodes (v0.1,v6)).bind fun v7=>
   let v8:List (List Int):=[v7]
   (gapp 24 v3.2 v8).bind fun v9=>
   let v10:Int:=wrap .i64 (v3.1+1)
   some (.inl (v10,v9))) else
  Option.map Sum.inr (
   Pu.loop (fun (v6:(Int×List (Int×((Int×Int)×List (Int×Int)))))=>
    let v7:Int:=((v0.2).length:Int)
    let v8:Bool:=decide (v6.1<v7)
    bif v8 then (
     (gget (0,(0,[])) v0.2 v6.1).bind fun v9=>
     (spec_OutNodes (v0.1,v9)).bind fun v10=>
     Pu.loop (fun (v11:(Int×List (Int×((Int×Int)×List (Int×Int)))))=>
      let v12:Int:=((v10).length:Int)
      let v13:Bool:=decide (v11.1<v12)
      bif v13 then (
       (gin (v10).length v11.1).bind fun _=>
       (gget 0 v10 v11.1).bind fun v15=>
       Pu.loop (fun (v16:(Int×List (Int×Int)))=>
        let v17:Int:=((v3.2).length:Int)
        let v18:Bool:=decide (v16.1<v17)
        bif v18 then (
         Pu.loop (fun (v19:(Int×List (Int×Int)))=>
          (gin (v3.2).length v16.1).bind fun _=>
          (gget [] v3.2 v16.1).bind fun v21=>
          let v22:Int:=((v21).length:Int)
          let v23:Bool:=decide (v19.1<v22)
          bif v23 then (
           (gin (v3.2).length v16.1).bind fun _=>
           (gget [] v3.2 v16.1).bind fun v25=>
           (gget 0 v25 v19.1).bind fun v26=>
           (gin (v10).length v11.1).bind fun _=>
           (gget 0 v10 v11.1).bind fun v28=>
           let v29:Bool:=decide (v26=v28)
           bif v29 then (
            let v30:List (Int×Int):=[(v16.1,v19.1)]
            (gapp 16 v19.2 v30).bind fun v31=>
            let v32:Int:=wrap .i64 (v19.1+1)
            some (.inl (v32,v31))) else
           let v30:Int:=wrap .i64 (v19.1+1)
           some (.inl (v30,v19.2))) else
          Option.map Sum.inr (
           let v24:Int:=wrap .i64 (v16.1+1)
           some (.inl (v24,v19.2)))) (0,v16.2)) else
        Option.map Sum.inr (
         let v19:Int:=((v16.2).length:Int)
         let v20:Bool:=decide (0<v19)
         bif v20 then (
          let v21:List (Int×((Int×Int)×List (Int×Int))):=[(v15,((v6.1,v11.1),v16.2))]
          (gapp 48 v11.2 v21).bind fun v22=>
          let v23:Int:=wrap .i64 (v11.1+1)
          some (.inl (v23,v22))) else
         let v21:Int:=wrap .i64 (v11.1+1)
         some (.inl (v21,v11.2)))) (0,([]:List (Int×Int)))) else
      Option.map Sum.inr (
       let v14:Int:=wrap .i64 (v6.1+1)
       some (.inl (v14,v11.2)))) (0,v6.2)) else
    Option.map Sum.inr (
     some v6.2)) (0,([]:List (Int×((Int×Int)×List (Int×Int))))))) (0,([]:List (List Int)))
noncomputable def laws_big (v0:List Int):Option Bool:=
 let v1:Int:=((v0).length:Int)
 let v2:Bool:=decide (1048576<v1)
 some v2
noncomputable def spec_l01New (v0:List Int):Option (Int×Int):=
 let v1:Int:=((v0).length:Int)
 let v2:Int:=wrap .i64 (33117+v1)
 joinO (
  Pu.loop (fun (v3:(Int×Int))=>
   let v4:Int:=((v0).length:Int)
   let v5:Bool:=decide (v3.2<v4)
   bif v5 then (
    let v6:Bool:=decide (v3.2<4000)
    bif v6 then (
     let v7:Int:=wrap .i64 (v3.1*131)
     (gget 0 v0 v3.2).bind fun v8=>
     let v9:Int:=wrap .i64 v8
     let v10:Int:=wrap .i64 (v7+v9)
     let v11:Int:=wrap .i64 (v10+7)
     let v12:Int:=gand .i64 v11 1073741823
     let v13:Int:=wrap .i64 (v3.2+1)
     some (.inl (v12,v13))) else
    Option.map Sum.inr (
     some (.inl v3.1))) else
   Option.map Sum.inr (
    some (.inl v3.1))) (v2,0)) (fun (v3:Int)=>
  some (0,v3))
noncomputable def spec_l01Byte (v0:(List Int×(Int×Int))):Option (Int×(Int×Int)):=
 let v1:Int:=wrap .i64 (v0.2.2*6364136223846793005)
 let v2:Int:=wrap .i64 (v1+1442695040888963407)
 (gshift false .i64 v2 33).bind fun v3=>
 (gshift false .i64 v2 45).bind fun v4=>
 let v5:Int:=gxor .i64 v3 v4
 let v6:Int:=gand .i64 v5 255
 let v7:Int:=((v0.1).length:Int)
 let v8:Bool:=decide (v0.2.1<v7)
 bif v8 then (
  (gget 0 v0.1 v0.2.1).bind fun v9=>
  let v10:Int:=wrap .i64 v9
  let v11:Int:=wrap .i64 (v6+v10)
  let v12:Int:=gand .i64 v11 255
  let v13:Int:=wrap .i64 (v0.2.1+1)
  some (v12,(v13,v2))) else
 some (v6,(v0.2.1,v2))
noncomputable def spec_l01Below (v0:((List Int×(Int×Int))×Int)):Option (Int×(Int×Int)):=
 let v1:Bool:=decide (v0.2<=0)
 bif v1 then (
  some (0,v0.1.2)) else
 let v2:Bool:=decide (v0.2<=256)
 bif v2 then (
  (spec_l01Byte v0.1).bind fun v3=>
  (grem v3.1 v0.2).bind fun v4=>
  some (v4,v3.2)) else
 (spec_l01Byte v0.1).bind fun v3=>
 (spec_l01Byte (v0.1.1,v3.2)).bind fun v4=>
 (spec_l01Byte (v0.1.1,v4.2)).bind fun v5=>
 (spec_l01Byte (v0.1.1,v5.2)).bind fun v6=>
 let v7:Int:=wrap .i64 (v3.1*16777216)
 let v8:Int:=wrap .i64 (v4.1*65536)
 let v9:Int:=wrap .i64 (v7+v8)
 let v10:Int:=wrap .i64 (v5.1*256)
 let v11:Int:=wrap .i64 (v9+v10)
 let v12:Int:=wrap .i64 (v11+v6.1)
 (grem v12 v0.2).bind fun v13=>
 some (v13,v6.2)
noncomputable def spec_l01PickInt (v0:((List Int×(Int×Int))×List Int)):Option (Int×(Int×Int)):=
 let v1:Int:=((v0.2).length:Int)
 (spec_l01Below (v0.1,v1)).bind fun v2=>
 (gget 0 v0.2 v2.1).bind fun v3=>
 some (v3,v2.2)
noncomputable def spec_l01Once (v0:((List Int×(Int×Int))×Int)):Option (Bool×(Int×Int)):=
 (spec_l01Below v0).bind fun v1=>
 let v2:Bool:=decide (v1.1=0)
 some (v2,v1.2)
noncomputable def spec_l26Device (v0:(List Int×(Int×Int))):Option ((Int×(Int×(Int×Int)))×(Int×Int)):=
 (spec_l01Below (v0,3)).bind fun v1=>
 let v2:Int:=wrap .i64 (3+v1.1)
 (spec_l01Below ((v0.1,v1.2),3)).bind fun v3=>
 let v4:Int:=wrap .i64 (3+v3.1)
 (spec_l01Below ((v0.1,v3.2),4)).bind fun v5=>
 let v6:Int:=wrap .i64 (1+v5.1)
 (spec_l01Once ((v0.1,v5.2),2)).bind fun v7=>
 bif v7.1 then (
  let v8:Int:=wrap .i64 (v2 - 2)
  (spec_l01Below ((v0.1,v7.2),v8)).bind fun v9=>
  let v10:Int:=wrap .i64 (1+v9.1)
  some ((v2,(v4,(v6,v10))),v9.2)) else
 some ((v2,(v4,(v6,(-1)))),v7.2)
noncomputable def spec_l26Abs (v0:Int):Option Int:=
 let v1:Bool:=decide (v0<0)
 bif v1 then (
  let v2:Int:=wrap .i64 (0 - v0)
  some v2) else
 some v0
noncomputable def spec_l08First (v0:(Int×(List (Int×(Int×List Int))×(List (Int×Int)×List Int)))):Option Int:=
 let v1:Int:=wrap .i64 (1+v0.1)
 let v2:Int:=((v0.2.1).length:Int)
 let v3:Int:=wrap .i64 (v1+v2)
 some v3
noncomputable def spec_l29Kinds (v0:List (Int×(Int×List (Int×Int)))):Option (List Int):=
 Pu.loop (fun (v1:(Int×List Int))=>
  let v2:Int:=((v0).length:Int)
  let v3:Bool:=decide (v1.1<v2)
  bif v3 then (
   (gget (0,(0,[])) v0 v1.1).bind fun v4=>
   let v5:List Int:=[v4.1]
   (gapp 8 v1.2 v5).bind fun v6=>
   let v7:Int:=wrap .i64 (v1.1+1)
   some (.inl (v7,v6))) else
  Option.map Sum.inr (
   some v1.2)) (0,([]:List Int))
noncomputable def spec_l08Roots (v0:(Int×(List (Int×(Int×List Int))×(List (Int×Int)×List Int)))):Option (List Int):=
 (gapp 8 ([]:List Int) v0.2.2.2).bind fun v1=>
 Pu.loop (fun (v2:(Int×List Int))=>
  let v3:Int:=((v0.2.1).length:Int)
  let v4:Bool:=decide (v2.1<v3)
  bif v4 then (
   (gget (0,(0,[])) v0.2.1 v2.1).bind fun v5=>
   (gapp 8 v2.2 v5.2.2).bind fun v6=>
   let v7:Int:=wrap .i64 (v2.1+1)
   some (.inl (v7,v6))) else
  Option.map Sum.inr (
   some v2.2)) (0,v1)
noncomputable def spec_l20Nodes (v0:(List Int×List Int)):Option (List Int):=
 Pu.loop (fun (v1:(Int×List Int))=>
  let v2:Int:=((v0.2).length:Int)
  let v3:Bool:=decide (v1.1<v2)
  bif v3 then (
   (gget 0 v0.2 v1.1).bind fun v4=>
   (gget 0 v0.1 v4).bind fun v5=>
   let v6:List Int:=[v5]
   (gapp 8 v1.2 v6).bind fun v7=>
   let v8:Int:=wrap .i64 (v1.1+1)
   some (.inl (v8,v7))) else
  Option.map Sum.inr (
   some v1.2)) (0,([]:List Int))
noncomputable def spec_l20Roots (v0:(List Int×(List Int×List Int))):Option (List Int):=
 Pu.loop (fun (v1:(Int×List Int))=>
  let v2:Int:=((v0.2.2).length:Int)
  let v3:Bool:=decide (v1.1<v2)
  bif v3 then (
   (gget 0 v0.2.2 v1.1).bind fun v4=>
   (grem v4 2).bind fun v5=>
   let v6:Bool:=decide (v5=0)
   bif v6 then (
    (gget 0 v0.2.2 v1.1).bind fun v7=>
    (gdiv .i64 v7 2).bind fun v8=>
    (gget 0 v0.1 v8).bind fun v9=>
    let v10:List Int:=[v9]
    (gapp 8 v1.2 v10).bind fun v11=>
    let v12:Int:=wrap .i64 (v1.1+1)
    some (.inl (v12,v11))) else
   (gget 0 v0.2.2 v1.1).bind fun v7=>
   (gdiv .i64 v7 2).bind fun v8=>
   (gget 0 v0.2.1 v8).bind fun v9=>
   let v10:List Int:=[v9]
   (gapp 8 v1.2 v10).bind fun v11=>
   let v12:Int:=wrap .i64 (v1.1+1)
   some (.inl (v12,v11))) else
  Option.map Sum.inr (
   some v1.2)) (0,([]:List Int))
noncomputable def spec_SampleNet (v0:Unit):Option (Int×(List (Int×(Int×List Int))×(List (Int×Int)×List Int))):=
 let v1:List Int:=[9]
 let v2:List (Int×(Int×List Int)):=[(0,(1,v1))]
 let v3:List (Int×Int):=[(2,6)]
 let v4:List Int:=[8,7]
 some (2,(v2,(v3,v4)))
noncomputable def spec_l08Lit (v0:(Int×Int)):Option Bool:=
 let v1:Bool:=decide (0<=v0.1)
 bif v1 then (
  (gdiv .i64 v0.1 2).bind fun v2=>
  let v3:Bool:=decide (v2<v0.2)
  some v3) else
 some false
noncomputable def spec_l08CopySeqs (v0:List (Int×(Int×List Int))):Option (List (Int×(Int×List Int))):=
 Pu.loop (fun (v1:(Int×List (Int×(Int×List Int))))=>
  let v2:Int:=((v0).length:Int)
  let v3:Bool:=decide (v1.1<v2)
  bif v3 then (
   joinO (
    (gget (0,(0,[])) v0 v1.1).bind fun v4=>
    (gget (0,(0,[])) v0 v1.1).bind fun v5=>
    (gget (0,(0,[])) v0 v1.1).bind fun v6=>
    (gapp 8 ([]:List Int) v6.2.2).bind fun v7=>
    let v8:List (Int×(Int×List Int)):=[(v4.1,(v5.2.1,v7))]
    (gapp 40 v1.2 v8).bind fun v9=>
    some (.inl v9)) (fun (v4:List (Int×(Int×List Int)))=>
    let v5:Int:=wrap .i64 (v1.1+1)
    some (.inl (v5,v4)))) else
  Option.map Sum.inr (
   some v1.2)) (0,([]:List (Int×(Int×List Int))))
noncomputable def spec_l10Map (v0:(List Int×List Int)):Option (List Int):=
 Pu.loop (fun (v1:(Int×List Int))=>
  let v2:Int:=((v0.2).length:Int)
  let v3:Bool:=decide (v1.1<v2)
  bif v3 then (
   (gget 0 v0.2 v1.1).bind fun v4=>
   (gdiv .i64 v4 2).bind fun v5=>
   (gget 0 v0.1 v5).bind fun v6=>
   (gget 0 v0.2 v1.1).bind fun v7=>
   let v8:Int:=gand .i64 v7 1
   let v9:Int:=gxor .i64 v6 v8
   let v10:List Int:=[v9]
   (gapp 8 v1.2 v10).bind fun v11=>
   let v12:Int:=wrap .i64 (v1.1+1)
   some (.inl (v12,v11))) else
  Option.map Sum.inr (
   some v1.2)) (0,([]:List Int))
noncomputable def spec_l09Bit (v0:(List Int×Int)):Option Int:=
 (gdiv .i64 v0.2 2).bind fun v1=>
 (gget 0 v0.1 v1).bind fun v2=>
 let v3:Int:=gand .i64 v0.2 1
 let v4:Int:=gxor .i64 v2 v3
 some v4
noncomputable def spec_l10Empty (v0:(Int×(List (Int×(Int×List Int))×(List (Int×Int)×List Int)))):Option ((Int×(List (Int×(Int×List Int))×(List (Int×Int)×List Int)))×List Int):=
 joinO (
  (spec_l08CopySeqs v0.2.1).bind fun v1=>
  some (.inl v1)) (fun (v1:List (Int×(Int×List Int)))=>
  Pu.loop (fun (v2:(Int×List Int))=>
   (spec_l08First v0).bind fun v3=>
   let v4:Bool:=decide (v2.1<v3)
   bif v4 then (
    let v5:Int:=wrap .i64 (2*v2.1)
    let v6:List Int:=[v5]
    (gapp 8 v2.2 v6).bind fun v7=>
    let v8:Int:=wrap .i64 (v2.1+1)
    some (.inl (v8,v7))) else
   Option.map Sum.inr (
    Pu.loop (fun (v5:(Int×List (Int×(Int×List Int))))=>
     let v6:Int:=((v5.2).length:Int)
     let v7:Bool:=decide (v5.1<v6)
     bif v7 then (
      (gin (v5.2).length v5.1).bind fun _=>
      (gget (0,(0,[])) v5.2 v5.1).bind fun v9=>
      let v10:Int:=((v9.2.2).length:Int)
      (gmake 8 (0:Int) v10).bind fun v11=>
      (gin (v5.2).length v5.1).bind fun _=>
      (gget (0,(0,[])) v5.2 v5.1).bind fun v13=>
      let v14:(Int×(Int×List Int)):=(v13.1,(v13.2.1,v11))
      let v15:List (Int×(Int×List Int)):=gset v5.2 v5.1 v14
      let v16:Int:=wrap .i64 (v5.1+1)
      some (.inl (v16,v15))) else
     Option.map Sum.inr (
      some ((v0.1,(v5.2,(([]:List (Int×Int)),([]:List Int)))),v2.2))) (0,v1))) (0,([]:List Int)))
noncomputable def spec_NodeCount (v0:(Int×(List (Int×(Int×List Int))×(List (Int×Int)×List Int)))):Option Int:=
 (spec_l01In (v0.1,(0,20))).bind fun v1=>
 let v2:Bool:= !v1
 bif v2 then (
  some 0) else
 let v3:Int:=((v0.2.1).length:Int)
 let v4:Bool:=decide (12<v3)
 bif v4 then (
  some 0) else
 let v5:Int:=((v0.2.2.1).length:Int)
 let v6:Bool:=decide (300<v5)
 bif v6 then (
  some 0) else
 let v7:Int:=((v0.2.2.2).length:Int)
 let v8:Bool:=decide (16<v7)
 bif v8 then (
  some 0) else
 let v9:Int:=wrap .i64 (1+v0.1)
 let v10:Int:=((v0.2.1).length:Int)
 let v11:Int:=wrap .i64 (v9+v10)
 let v12:Int:=((v0.2.2.1).length:Int)
 let v13:Int:=wrap .i64 (v11+v12)
 some v13
noncomputable def spec_l08Copy (v0:(Int×(List (Int×(Int×List Int))×(List (Int×Int)×List Int)))):Option (Int×(List (Int×(Int×List Int))×(List (Int×Int)×List Int))):=
 (spec_l08CopySeqs v0.2.1).bind fun v1=>
 (gapp 16 ([]:List (Int×Int)) v0.2.2.1).bind fun v2=>
 (gapp 8 ([]:List Int) v0.2.2.2).bind fun v3=>
 some (v0.1,(v1,(v2,v3)))
noncomputable def spec_l08Mark (v0:((Int×(List (Int×(Int×List Int))×(List (Int×Int)×List Int)))×List Bool)):Option (List Bool):=
 (gapp 1 ([]:List Bool) v0.2).bind fun v1=>
 let v2:Int:=((v0.1.2.2.1).length:Int)
 let v3:Int:=wrap .i64 (v2 - 1)
 Pu.loop (fun (v4:(Int×List Bool))=>
  let v5:Bool:=decide (0<=v4.1)
  bif v5 then (
   (spec_l08First v0.1).bind fun v6=>
   let v7:Int:=wrap .i64 (v6+v4.1)
   (gin (v4.2).length v7).bind fun _=>
   (gget false v4.2 v7).bind fun v9=>
   bif v9 then (
    (gget (0,0) v0.1.2.2.1 v4.1).bind fun v10=>
    (gdiv .i64 v10.1 2).bind fun v11=>
    (gin (v4.2).length v11).bind fun _=>
    (gget false v4.2 v11).bind fun v13=>
    let v14:Bool:=true
    let v15:List Bool:=gset v4.2 v11 v14
    (gget (0,0) v0.1.2.2.1 v4.1).bind fun v16=>
    (gdiv .i64 v16.2 2).bind fun v17=>
    (gin (v15).length v17).bind fun _=>
    (gget false v15 v17).bind fun v19=>
    let v20:Bool:=true
    let v21:List Bool:=gset v15 v17 v20
    let v22:Int:=wrap .i64 (v4.1 - 1)
    some (.inl (v22,v21))) else
   let v10:Int:=wrap .i64 (v4.1 - 1)
   some (.inl (v10,v4.2))) else
  Option.map Sum.inr (
   some v4.2)) (v3,v1)
noncomputable def spec_l17Fan (v0:((Int×(List (Int×(Int×List Int))×(List (Int×Int)×List Int)))×Int)):Option (List Int):=
 (spec_l08First v0.1).bind fun v1=>
 let v2:Bool:=decide (v0.2<v1)
 bif v2 then (
  some ([]:List Int)) else
 (spec_l08First v0.1).bind fun v3=>
 let v4:Int:=wrap .i64 (v0.2 - v3)
 (gget (0,0) v0.1.2.2.1 v4).bind fun v5=>
 let v6:Bool:=decide (1<v5.1)
 bif v6 then (
  (gdiv .i64 v5.1 2).bind fun v7=>
  let v8:List Int:=[v7]
  (gapp 8 ([]:List Int) v8).bind fun v9=>
  let v10:Bool:=decide (1<v5.2)
  bif v10 then (
   (gdiv .i64 v5.2 2).bind fun v11=>
   let v12:List Int:=[v11]
   (gapp 8 v9 v12).bind fun v13=>
   some v13) else
  some v9) else
 let v7:Bool:=decide (1<v5.2)
 bif v7 then (
  (gdiv .i64 v5.2 2).bind fun v8=>
  let v9:List Int:=[v8]
  (gapp 8 ([]:List Int) v9).bind fun v10=>
  some v10) else
 some ([]:List Int)
noncomputable def spec_NetOk (v0:(Int×(List (Int×(Int×List Int))×(List (Int×Int)×List Int)))):Option Bool:=
 (spec_NodeCount v0).bind fun v1=>
 let v2:Bool:=decide (v1=0)
 bif v2 then (
  some false) else
 Pu.loop (fun (v3:Int)=>
  let v4:Int:=((v0.2.1).length:Int)
  let v5:Bool:=decide (v3<v4)
  bif v5 then (
   (gget (0,(0,[])) v0.2.1 v3).bind fun v6=>
   let v7:Bool:=decide (v6.1=0)
   bif v7 then (
    (spec_l01In (v6.2.1,(0,1))).bind fun v8=>
    bif v8 then (
     let v9:Int:=((v6.2.2).length:Int)
     let v10:Bool:=decide (v9=1)
     bif v10 then (
      let v11:Int:=wrap .i64 (v3+1)
      some (.inl v11)) else
     let v11:Bool:=decide (v6.1=1)
     bif v11 then (
      (spec_l01In (v6.2.1,(0,31))).bind fun v12=>
      bif v12 then (
       let v13:Int:=((v6.2.2).length:Int)
       let v14:Bool:=decide (v13=4)
       let v15:Bool:= !v14
       bif v15 then (
        Option.map Sum.inr (
         some false)) else
       let v16:Int:=wrap .i64 (v3+1)
       some (.inl v16)) else
      Option.map Sum.inr (
       some false)) else
     Option.map Sum.inr (
      some false)) else
    let v9:Bool:=decide (v6.1=1)
    bif v9 then (
     (spec_l01In (v6.2.1,(0,31))).bind fun v10=>
     bif v10 then (
      let v11:Int:=((v6.2.2).length:Int)
      let v12:Bool:=decide (v11=4)
      let v13:Bool:= !v12
      bif v13 then (
       Option.map Sum.inr (
        some false)) else
      let v14:Int:=wrap .i64 (v3+1)
      some (.inl v14)) else
     Option.map Sum.inr (
      some false)) else
    Option.map Sum.inr (
     some false)) else
   let v8:Bool:=decide (v6.1=1)
   bif v8 then (
    (spec_l01In (v6.2.1,(0,31))).bind fun v9=>
    bif v9 then (
     let v10:Int:=((v6.2.2).length:Int)
     let v11:Bool:=decide (v10=4)
     let v12:Bool:= !v11
     bif v12 then (
      Option.map Sum.inr (
       some false)) else
     let v13:Int:=wrap .i64 (v3+1)
     some (.inl v13)) else
    Option.map Sum.inr (
     some false)) else
   Option.map Sum.inr (
    some false)) else
  Option.map Sum.inr (
   (spec_l08Roots v0).bind fun v6=>
   Pu.loop (fun (v7:Int)=>
    let v8:Int:=((v6).length:Int)
    let v9:Bool:=decide (v7<v8)
    bif v9 then (
     (gin (v6).length v7).bind fun _=>
     (gget 0 v6 v7).bind fun v11=>
     (spec_l08Lit (v11,v1)).bind fun v12=>
     let v13:Bool:= !v12
     bif v13 then (
      Option.map Sum.inr (
       some false)) else
     let v14:Int:=wrap .i64 (v7+1)
     some (.inl v14)) else
    Option.map Sum.inr (
     Pu.loop (fun (v10:Int)=>
      let v11:Int:=((v0.2.2.1).length:Int)
      let v12:Bool:=decide (v10<v11)
      bif v12 then (
       (gget (0,0) v0.2.2.1 v10).bind fun v13=>
       (spec_l08First v0).bind fun v14=>
       let v15:Int:=wrap .i64 (v14+v10)
       (spec_l08Lit (v13.1,v15)).bind fun v16=>
       let v17:Bool:= !v16
       bif v17 then (
        Option.map Sum.inr (
         some false)) else
       (gget (0,0) v0.2.2.1 v10).bind fun v18=>
       (spec_l08First v0).bind fun v19=>
       let v20:Int:=wrap .i64 (v19+v10)
       (spec_l08Lit (v18.2,v20)).bind fun v21=>
       let v22:Bool:= !v21
       bif v22 then (
        Option.map Sum.inr (
         some false)) else
       let v23:Int:=wrap .i64 (v10+1)
       some (.inl v23)) else
      Option.map Sum.inr (
       some true)) 0)) 0)) 0
noncomputable def spec_TableNot (v0:(Int×Int)):Option (Int×Int):=
 (spec_TableOk v0).bind fun v1=>
 let v2:Bool:= !v1
 bif v2 then (
  some (0,0)) else
 (spec_l02Full v0.1).bind fun v3=>
 let v4:Int:=wrap .i64 (v3 - v0.2)
 some (v0.1,v4)
noncomputable def spec_l17Search (v0:((Int×(List (Int×(Int×List Int))×(List (Int×Int)×List Int)))×(List Bool×(List Bool×List Int)))):Option (List Int×Int):=
 Pu.loop (fun (v1:(Int×List Int))=>
  (spec_NodeCount v0.1).bind fun v2=>
  let v3:Int:=wrap .i64 (2*v2)
  let v4:Bool:=decide (v1.1<v3)
  bif v4 then (
   let v5:List Int:=[(-2)]
   (gapp 8 v1.2 v5).bind fun v6=>
   let v7:Int:=wrap .i64 (v1.1+1)
   some (.inl (v7,v6))) else
  Option.map Sum.inr (
   Pu.loop (fun (v5:(Int×(List Int×List Int)))=>
    (spec_NodeCount v0.1).bind fun v6=>
    let v7:Bool:=decide (v5.1<v6)
    bif v7 then (
     (spec_l17Fan (v0.1,v5.1)).bind fun v8=>
     joinO (
      Pu.loop (fun (v9:(Int×(List Int×List Int)))=>
       let v10:Int:=((v8).length:Int)
       let v11:Bool:=decide (v9.1<v10)
       bif v11 then (
        (gget false v0.2.1 v5.1).bind fun v12=>
        bif v12 then (
         (gin (v8).length v9.1).bind fun _=>
         (gget 0 v8 v9.1).bind fun v14=>
         (gget false v0.2.1 v14).bind fun v15=>
         let v16:Bool:= !v15
         bif v16 then (
          (gin (v8).length v9.1).bind fun _=>
          (gget 0 v8 v9.1).bind fun v18=>
          let v19:Int:=wrap .i64 (2*v18)
          (gin (v9.2.1).length v19).bind fun _=>
          (gget 0 v9.2.1 v19).bind fun v21=>
          let v22:Bool:=decide (v21=(-2))
          bif v22 then (
           (gin (v8).length v9.1).bind fun _=>
           (gget 0 v8 v9.1).bind fun v24=>
           let v25:Int:=wrap .i64 (2*v24)
           (gin (v9.2.1).length v25).bind fun _=>
           (gget 0 v9.2.1 v25).bind fun v27=>
           let v28:Int:=(-1)
           let v29:List Int:=gset v9.2.1 v25 v28
           (gin (v8).length v9.1).bind fun _=>
           (gget 0 v8 v9.1).bind fun v31=>
           let v32:Int:=wrap .i64 (2*v31)
           let v33:List Int:=[v32]
           (gapp 8 v9.2.2 v33).bind fun v34=>
           let v35:Int:=wrap .i64 (v9.1+1)
           some (.inl (v35,(v29,v34)))) else
          let v23:Int:=wrap .i64 (v9.1+1)
          some (.inl (v23,v9.2))) else
         let v17:Int:=wrap .i64 (v9.1+1)
         some (.inl (v17,v9.2))) else
        Option.map Sum.inr (
         some (.inl v9.2))) else
       Option.map Sum.inr (
        some (.inl v9.2))) (0,v5.2)) (fun (v9:(List Int×List Int))=>
      let v10:Int:=wrap .i64 (v5.1+1)
      some (.inl (v10,v9)))) else
    Option.map Sum.inr (
     Pu.loop (fun (v8:(Int×(List Int×List Int)))=>
      let v9:Int:=((v8.2.2).length:Int)
      let v10:Bool:=decide (v8.1<v9)
      bif v10 then (
       (gin (v8.2.2).length v8.1).bind fun _=>
       (gget 0 v8.2.2 v8.1).bind fun v12=>
       (gdiv .i64 v12 2).bind fun v13=>
       joinO (
        (gin (v8.2.2).length v8.1).bind fun _=>
        (gget 0 v8.2.2 v8.1).bind fun v15=>
        (grem v15 2).bind fun v16=>
        let v17:Bool:=decide (v16=0)
        bif v17 then (
         (gget false v0.2.2.1 v13).bind fun v18=>
         let v19:Bool:= !v18
         bif v19 then (
          let v20:Int:=wrap .i64 (2*v13)
          let v21:Int:=wrap .i64 (v20+1)
          let v22:List Int:=[v21]
          (gapp 8 ([]:List Int) v22).bind fun v23=>
          some (.inl v23)) else
         (gget 0 v0.2.2.2 v13).bind fun v20=>
         let v21:Bool:=decide (0<=v20)
         bif v21 then (
          (gget 0 v0.2.2.2 v13).bind fun v22=>
          let v23:Int:=wrap .i64 (2*v22)
          let v24:Int:=wrap .i64 (v23+1)
          let v25:List Int:=[v24]
          (gapp 8 ([]:List Int) v25).bind fun v26=>
          some (.inl v26)) else
         some (.inl ([]:List Int))) else
        (spec_l08First v0.1).bind fun v18=>
        let v19:Bool:=decide (v13<v18)
        bif v19 then (
         (gin (v8.2.2).length v8.1).bind fun _=>
         (gget 0 v8.2.2 v8.1).bind fun v21=>
         Option.map Sum.inr (
          Option.map Sum.inr (
           some (v8.2.1,v21)))) else
        (spec_l17Fan (v0.1,v13)).bind fun v20=>
        Pu.loop (fun (v21:(Int×List Int))=>
         let v22:Int:=((v20).length:Int)
         let v23:Bool:=decide (v21.1<v22)
         bif v23 then (
          (gin (v20).length v21.1).bind fun _=>
          (gget 0 v20 v21.1).bind fun v25=>
          let v26:Int:=wrap .i64 (2*v25)
          let v27:List Int:=[v26]
          (gapp 8 v21.2 v27).bind fun v28=>
          let v29:Int:=wrap .i64 (v21.1+1)
          some (.inl (v29,v28))) else
         Option.map Sum.inr (
          (gget false v0.2.2.1 v13).bind fun v24=>
          bif v24 then (
           let v25:Int:=wrap .i64 (2*v13)
           let v26:List Int:=[v25]
           (gapp 8 v21.2 v26).bind fun v27=>
           some (.inl v27)) else
          some (.inl v21.2))) (0,([]:List Int))) (fun (v14:List Int)=>
        Pu.loop (fun (v15:(Int×(List Int×List Int)))=>
         let v16:Int:=((v14).length:Int)
         let v17:Bool:=decide (v15.1<v16)
         bif v17 then (
          (gin (v14).length v15.1).bind fun _=>
          (gget 0 v14 v15.1).bind fun v19=>
          (gin (v15.2.1).length v19).bind fun _=>
          (gget 0 v15.2.1 v19).bind fun v21=>
          let v22:Bool:=decide (v21=(-2))
          bif v22 then (
           (gin (v14).length v15.1).bind fun _=>
           (gget 0 v14 v15.1).bind fun v24=>
           (gin (v15.2.2).length v8.1).bind fun _=>
           (gget 0 v15.2.2 v8.1).bind fun v26=>
           (gin (v15.2.1).length v24).bind fun _=>
           (gget 0 v15.2.1 v24).bind fun v28=>
           let v29:Int:=v26
           let v30:List Int:=gset v15.2.1 v24 v29
           (gin (v14).length v15.1).bind fun _=>
           (gget 0 v14 v15.1).bind fun v32=>
           let v33:List Int:=[v32]
           (gapp 8 v15.2.2 v33).bind fun v34=>
           let v35:Int:=wrap .i64 (v15.1+1)
           some (.inl (v35,(v30,v34)))) else
          let v23:Int:=wrap .i64 (v15.1+1)
          some (.inl (v23,v15.2))) else
         Option.map Sum.inr (
          let v18:Int:=wrap .i64 (v8.1+1)
          some (.inl (v18,v15.2)))) (0,v8.2))) else
      Option.map Sum.inr (
       some (v8.2.1,(-1)))) (0,v5.2))) (0,(v1.2,([]:List Int))))) (0,([]:List Int))
noncomputable def spec_TileDistance (v0:((Int×(Int×(Int×Int)))×(Int×Int))):Option Int:=
 (spec_TileKind (v0.1,v0.2.1)).bind fun v1=>
 let v2:Bool:=decide (v1<0)
 bif v2 then (
  some (-1)) else
 (spec_TileKind (v0.1,v0.2.2)).bind fun v3=>
 let v4:Bool:=decide (v3<0)
 bif v4 then (
  some (-1)) else
 (grem v0.2.1 v0.1.1).bind fun v5=>
 (grem v0.2.2 v0.1.1).bind fun v6=>
 let v7:Int:=wrap .i64 (v5 - v6)
 (gdiv .i64 v0.2.1 v0.1.1).bind fun v8=>
 (gdiv .i64 v0.2.2 v0.1.1).bind fun v9=>
 let v10:Int:=wrap .i64 (v8 - v9)
 (spec_l26Abs v7).bind fun v11=>
 (spec_l26Abs v10).bind fun v12=>
 let v13:Int:=wrap .i64 (v11+v12)
 some v13
noncomputable def spec_l08Sized (v0:((List Int×(Int×Int))×(Int×(Int×Int)))):Option ((Int×(List (Int×(Int×List Int))×(List (Int×Int)×List Int)))×(Int×Int)):=
 (spec_l01Below (v0.1,v0.2.1)).bind fun v1=>
 let v2:Int:=wrap .i64 (1+v1.1)
 let v3:Int:=wrap .i64 (v0.2.2.1+1)
 (spec_l01Below ((v0.1.1,v1.2),v3)).bind fun v4=>
 let v5:Int:=wrap .i64 (v0.2.2.2+1)
 (spec_l01Below ((v0.1.1,v4.2),v5)).bind fun v6=>
 let v7:Int:=wrap .i64 (1+v2)
 let v8:Int:=wrap .i64 (v7+v4.1)
 Pu.loop (fun (v9:(Int×(Int×(Int×List (Int×Int)))))=>
  let v10:Bool:=decide (v9.1<v6.1)
  bif v10 then (
   let v11:Int:=wrap .i64 (v8+v9.1)
   let v12:Int:=wrap .i64 (2*v11)
   let v13:Int:=wrap .i64 (v12 - 1)
   let v14:Int:=wrap .i64 (v12 - 1)
   let v15:Int:=if 14<v14 then 14 else v14
   (spec_l01Below ((v0.1.1,(v9.2.1,v9.2.2.1)),v15)).bind fun v16=>
   let v17:Int:=wrap .i64 (v13 - v16.1)
   (spec_l01Below ((v0.1.1,v16.2),v12)).bind fun v18=>
   let v19:List (Int×Int):=[(v17,v18.1)]
   (gapp 16 v9.2.2.2 v19).bind fun v20=>
   let v21:Int:=wrap .i64 (v9.1+1)
   some (.inl (v21,(v18.2.1,(v18.2.2,v20))))) else
  Option.map Sum.inr (
   let v11:Int:=wrap .i64 (v8+v6.1)
   let v12:Int:=wrap .i64 (2*v11)
   Pu.loop (fun (v13:(Int×(Int×(Int×List (Int×(Int×List Int))))))=>
    let v14:Bool:=decide (v13.1<v4.1)
    bif v14 then (
     joinO (
      (spec_l01Once ((v0.1.1,(v13.2.1,v13.2.2.1)),6)).bind fun v15=>
      bif v15.1 then (
       (spec_l01Below ((v0.1.1,v15.2),32)).bind fun v16=>
       (spec_l01Below ((v0.1.1,v16.2),v12)).bind fun v17=>
       (spec_l01Below ((v0.1.1,v17.2),v12)).bind fun v18=>
       (spec_l01Below ((v0.1.1,v18.2),v12)).bind fun v19=>
       (spec_l01Below ((v0.1.1,v19.2),v12)).bind fun v20=>
       let v21:List Int:=[v17.1,v18.1,v19.1,v20.1]
       let v22:List (Int×(Int×List Int)):=[(1,(v16.1,v21))]
       (gapp 40 v13.2.2.2 v22).bind fun v23=>
       some (.inl (v20.2.1,(v20.2.2,v23)))) else
      let v16:Int:=wrap .i64 (v12 - 1)
      let v17:Int:=if 12<v12 then 12 else v12
      (spec_l01Below ((v0.1.1,v15.2),2)).bind fun v18=>
      (spec_l01Below ((v0.1.1,v18.2),v17)).bind fun v19=>
      let v20:Int:=wrap .i64 (v16 - v19.1)
      let v21:List Int:=[v20]
      let v22:List (Int×(Int×List Int)):=[(0,(v18.1,v21))]
      (gapp 40 v13.2.2.2 v22).bind fun v23=>
      some (.inl (v19.2.1,(v19.2.2,v23)))) (fun (v15:(Int×(Int×List (Int×(Int×List Int)))))=>
      let v16:Int:=wrap .i64 (v13.1+1)
      some (.inl (v16,v15)))) else
    Option.map Sum.inr (
     (spec_l01Below ((v0.1.1,(v13.2.1,v13.2.2.1)),4)).bind fun v15=>
     Pu.loop (fun (v16:(Int×(Int×(Int×List Int))))=>
      let v17:Bool:=decide (0<=v16.1)
      bif v17 then (
       let v18:Int:=wrap .i64 (v12 - 1)
       let v19:Int:=if 12<v12 then 12 else v12
       (spec_l01Below ((v0.1.1,(v16.2.1,v16.2.2.1)),v19)).bind fun v20=>
       let v21:Int:=wrap .i64 (v18 - v20.1)
       let v22:List Int:=[v21]
       (gapp 8 v16.2.2.2 v22).bind fun v23=>
       let v24:Int:=wrap .i64 (v16.1 - 1)
       some (.inl (v24,(v20.2.1,(v20.2.2,v23))))) else
      Option.map Sum.inr (
       some ((v2,(v13.2.2.2,(v9.2.2.2,v16.2.2.2))),(v16.2.1,v16.2.2.1)))) (v15.1,(v15.2.1,(v15.2.2,([]:List Int)))))) (0,(v9.2.1,(v9.2.2.1,([]:List (Int×(Int×List Int)))))))) (0,(v6.2.1,(v6.2.2,([]:List (Int×Int)))))
noncomputable def spec_AddAnd (v0:((Int×(List (Int×(Int×List Int))×(List (Int×Int)×List Int)))×(Int×Int))):Option ((Int×(List (Int×(Int×List Int))×(List (Int×Int)×List Int)))×Int):=
 (spec_l08Copy v0.1).bind fun v1=>
 (spec_NodeCount v0.1).bind fun v2=>
 (spec_NetOk v0.1).bind fun v3=>
 let v4:Bool:= !v3
 bif v4 then (
  some (v1,(-1))) else
 (spec_l08Lit (v0.2.1,v2)).bind fun v5=>
 let v6:Bool:= !v5
 bif v6 then (
  some (v1,(-1))) else
 (spec_l08Lit (v0.2.2,v2)).bind fun v7=>
 let v8:Bool:= !v7
 bif v8 then (
  some (v1,(-1))) else
 let v9:Bool:=decide (v0.2.1=0)
 bif v9 then (
  some (v1,0)) else
 let v10:Bool:=decide (v0.2.2=0)
 bif v10 then (
  some (v1,0)) else
 let v11:Int:=gxor .i64 v0.2.2 1
 let v12:Bool:=decide (v0.2.1=v11)
 bif v12 then (
  some (v1,0)) else
 let v13:Bool:=decide (v0.2.1=1)
 bif v13 then (
  some (v1,v0.2.2)) else
 let v14:Bool:=decide (v0.2.1=v0.2.2)
 bif v14 then (
  some (v1,v0.2.2)) else
 let v15:Bool:=decide (v0.2.2=1)
 bif v15 then (
  some (v1,v0.2.1)) else
 let v16:Int:=if v0.2.2<v0.2.1 then v0.2.2 else v0.2.1
 let v17:Int:=if v0.2.1<v0.2.2 then v0.2.2 else v0.2.1
 Pu.loop (fun (v18:Int)=>
  let v19:Int:=((v0.1.2.2.1).length:Int)
  let v20:Bool:=decide (v18<v19)
  bif v20 then (
   (gget (0,0) v0.1.2.2.1 v18).bind fun v21=>
   let v22:Bool:=(decide (v21.1=v16) && decide (v21.2=v17))
   bif v22 then (
    (spec_l08First v0.1).bind fun v23=>
    let v24:Int:=wrap .i64 (v23+v18)
    let v25:Int:=wrap .i64 (2*v24)
    Option.map Sum.inr (
     some (v1,v25))) else
   let v23:Int:=wrap .i64 (v18+1)
   some (.inl v23)) else
  Option.map Sum.inr (
   let v21:Int:=((v0.1.2.2.1).length:Int)
   let v22:Bool:=decide (v21=300)
   bif v22 then (
    some (v1,(-1))) else
   let v23:List (Int×Int):=[(v16,v17)]
   (gapp 16 v1.2.2.1 v23).bind fun v24=>
   let v25:Int:=wrap .i64 (2*v2)
   some ((v1.1,(v1.2.1,(v24,v1.2.2.2))),v25))) 0
noncomputable def spec_Reached (v0:(Int×(List (Int×(Int×List Int))×(List (Int×Int)×List Int)))):Option (List Bool):=
 (spec_NetOk v0).bind fun v1=>
 let v2:Bool:= !v1
 bif v2 then (
  some ([]:List Bool)) else
 (spec_NodeCount v0).bind fun v3=>
 (gmake 1 (false:Bool) v3).bind fun v4=>
 (spec_l08Roots v0).bind fun v5=>
 Pu.loop (fun (v6:(Int×List Bool))=>
  let v7:Int:=((v5).length:Int)
  let v8:Bool:=decide (v6.1<v7)
  bif v8 then (
   (gin (v5).length v6.1).bind fun _=>
   (gget 0 v5 v6.1).bind fun v10=>
   (gdiv .i64 v10 2).bind fun v11=>
   (gin (v6.2).length v11).bind fun _=>
   (gget false v6.2 v11).bind fun v13=>
   let v14:Bool:=true
   let v15:List Bool:=gset v6.2 v11 v14
   let v16:Int:=wrap .i64 (v6.1+1)
   some (.inl (v16,v15))) else
  Option.map Sum.inr (
   (spec_l08Mark (v0,v6.2)).bind fun v9=>
   some v9)) (0,v4)
noncomputable def spec_Cone (v0:((Int×(List (Int×(Int×List Int))×(List (Int×Int)×List Int)))×Int)):Option (List Int):=
 (spec_NetOk v0.1).bind fun v1=>
 let v2:Bool:= !v1
 bif v2 then (
  some ([]:List Int)) else
 let v3:Bool:=decide (v0.2<0)
 bif v3 then (
  some ([]:List Int)) else
 (spec_NodeCount v0.1).bind fun v4=>
 let v5:Bool:=decide (v4<=v0.2)
 bif v5 then (
  some ([]:List Int)) else
 (spec_NodeCount v0.1).bind fun v6=>
 (gmake 1 (false:Bool) v6).bind fun v7=>
 (gin (v7).length v0.2).bind fun _=>
 (gget false v7 v0.2).bind fun v9=>
 let v10:Bool:=true
 let v11:List Bool:=gset v7 v0.2 v10
 (spec_l08Mark (v0.1,v11)).bind fun v12=>
 Pu.loop (fun (v13:(Int×List Int))=>
  let v14:Int:=((v12).length:Int)
  let v15:Bool:=decide (v13.1<v14)
  bif v15 then (
   (gin (v12).length v13.1).bind fun _=>
   (gget false v12 v13.1).bind fun v17=>
   bif v17 then (
    let v18:List Int:=[v13.1]
    (gapp 8 v13.2 v18).bind fun v19=>
    let v20:Int:=wrap .i64 (v13.1+1)
    some (.inl (v20,v19))) else
   let v18:Int:=wrap .i64 (v13.1+1)
   some (.inl (v18,v13.2))) else
  Option.map Sum.inr (
   some v13.2)) (0,([]:List Int))
noncomputable def spec_l29Random (v0:((List Int×(Int×Int))×((Int×(Int×(Int×Int)))×List Int))):Option (List Int×(Int×Int)):=
 let v1:Int:=wrap .i64 (v0.2.1.1*v0.2.1.2.1)
 (gmake 1 (false:Bool) v1).bind fun v2=>
 Pu.loop (fun (v3:(Int×(Int×(Int×(List Int×List Bool)))))=>
  let v4:Int:=((v0.2.2).length:Int)
  let v5:Bool:=decide (v3.1<v4)
  bif v5 then (
   (gget 0 v0.2.2 v3.1).bind fun v6=>
   (spec_BlockTile v6).bind fun v7=>
   (spec_TilesOf (v0.2.1,v7)).bind fun v8=>
   let v9:Int:=((v8).length:Int)
   (spec_l01Below ((v0.1.1,(v3.2.1,v3.2.2.1)),v9)).bind fun v10=>
   joinO (
    Pu.loop (fun (v11:(Int×Int))=>
     let v12:Bool:=decide (v11.2<v9)
     bif v12 then (
      let v13:Bool:=decide (v11.1<0)
      bif v13 then (
       let v14:Int:=wrap .i64 (v10.1+v11.2)
       (grem v14 v9).bind fun v15=>
       (gin (v8).length v15).bind fun _=>
       (gget 0 v8 v15).bind fun v17=>
       (gin (v3.2.2.2.2).length v17).bind fun _=>
       (gget false v3.2.2.2.2 v17).bind fun v19=>
       let v20:Bool:= !v19
       bif v20 then (
        let v21:Int:=wrap .i64 (v11.2+1)
        some (.inl (v17,v21))) else
       let v21:Int:=wrap .i64 (v11.2+1)
       some (.inl (v11.1,v21))) else
      Option.map Sum.inr (
       some (.inl v11.1))) else
     Option.map Sum.inr (
      some (.inl v11.1))) ((-1),0)) (fun (v11:Int)=>
    let v12:Bool:=decide (v11<0)
    bif v12 then (
     Option.map Sum.inr (
      some (([]:List Int),v10.2))) else
    (gin (v3.2.2.2.2).length v11).bind fun _=>
    (gget false v3.2.2.2.2 v11).bind fun v14=>
    let v15:Bool:=true
    let v16:List Bool:=gset v3.2.2.2.2 v11 v15
    let v17:List Int:=[v11]
    (gapp 8 v3.2.2.2.1 v17).bind fun v18=>
    let v19:Int:=wrap .i64 (v3.1+1)
    some (.inl (v19,(v10.2.1,(v10.2.2,(v18,v16))))))) else
  Option.map Sum.inr (
   some (v3.2.2.2.1,(v3.2.1,v3.2.2.1)))) (0,(v0.1.2.1,(v0.1.2.2,(([]:List Int),v2))))
noncomputable def spec_Sweep (v0:(Int×(List (Int×(Int×List Int))×(List (Int×Int)×List Int)))):Option (Int×(List (Int×(Int×List Int))×(List (Int×Int)×List Int))):=
 (spec_NetOk v0).bind fun v1=>
 let v2:Bool:= !v1
 bif v2 then (
  some (0,(([]:List (Int×(Int×List Int))),(([]:List (Int×Int)),([]:List Int))))) else
 (spec_Reached v0).bind fun v3=>
 (spec_l10Empty v0).bind fun v4=>
 (spec_l08First v0).bind fun v5=>
 Pu.loop (fun (v6:(Int×(List Int×(Int×List (Int×Int)))))=>
  let v7:Int:=((v0.2.2.1).length:Int)
  let v8:Bool:=decide (v6.1<v7)
  bif v8 then (
   (spec_l08First v0).bind fun v9=>
   let v10:Int:=wrap .i64 (v9+v6.1)
   (gin (v3).length v10).bind fun _=>
   (gget false v3 v10).bind fun v12=>
   let v13:Bool:= !v12
   bif v13 then (
    let v14:List Int:=[0]
    (gapp 8 v6.2.1 v14).bind fun v15=>
    let v16:Int:=wrap .i64 (v6.1+1)
    some (.inl (v16,(v15,v6.2.2)))) else
   (gget (0,0) v0.2.2.1 v6.1).bind fun v14=>
   (gget (0,0) v0.2.2.1 v6.1).bind fun v15=>
   let v16:List Int:=[v14.1,v15.2]
   (spec_l10Map (v6.2.1,v16)).bind fun v17=>
   (gin (v17).length 0).bind fun _=>
   (gget 0 v17 0).bind fun v19=>
   (gin (v17).length 1).bind fun _=>
   (gget 0 v17 1).bind fun v21=>
   let v22:List (Int×Int):=[(v19,v21)]
   (gapp 16 v6.2.2.2 v22).bind fun v23=>
   let v24:Int:=wrap .i64 (2*v6.2.2.1)
   let v25:List Int:=[v24]
   (gapp 8 v6.2.1 v25).bind fun v26=>
   let v27:Int:=wrap .i64 (v6.2.2.1+1)
   let v28:Int:=wrap .i64 (v6.1+1)
   some (.inl (v28,(v26,(v27,v23))))) else
  Option.map Sum.inr (
   Pu.loop (fun (v9:(Int×List (Int×(Int×List Int))))=>
    let v10:Int:=((v9.2).length:Int)
    let v11:Bool:=decide (v9.1<v10)
    bif v11 then (
     (gget (0,(0,[])) v0.2.1 v9.1).bind fun v12=>
     (spec_l10Map (v6.2.1,v12.2.2)).bind fun v13=>
     (gin (v9.2).length v9.1).bind fun _=>
     (gget (0,(0,[])) v9.2 v9.1).bind fun v15=>
     let v16:(Int×(Int×List Int)):=(v15.1,(v15.2.1,v13))
     let v17:List (Int×(Int×List Int)):=gset v9.2 v9.1 v16
     let v18:Int:=wrap .i64 (v9.1+1)
     some (.inl (v18,v17))) else
    Option.map Sum.inr (
     (spec_l10Map (v6.2.1,v0.2.2.2)).bind fun v12=>
     some (v4.1.1,(v9.2,(v6.2.2.2,v12))))) (0,v4.1.2.1))) (0,(v4.2,(v5,v4.1.2.2.1)))
noncomputable def spec_CutOk (v0:((Int×(List (Int×(Int×List Int))×(List (Int×Int)×List Int)))×(Int×List Int))):Option Bool:=
 (spec_NetOk v0.1).bind fun v1=>
 let v2:Bool:= !v1
 bif v2 then (
  some false) else
 let v3:Bool:=decide (v0.2.1<0)
 bif v3 then (
  some false) else
 (spec_NodeCount v0.1).bind fun v4=>
 let v5:Bool:=decide (v4<=v0.2.1)
 bif v5 then (
  some false) else
 let v6:Int:=((v0.2.2).length:Int)
 let v7:Bool:=decide (4<v6)
 bif v7 then (
  some false) else
 (spec_Cone (v0.1,v0.2.1)).bind fun v8=>
 Pu.loop (fun (v9:Int)=>
  let v10:Int:=((v0.2.2).length:Int)
  let v11:Bool:=decide (v9<v10)
  bif v11 then (
   (gget 0 v0.2.2 v9).bind fun v12=>
   (spec_l13Has (v8,v12)).bind fun v13=>
   let v14:Bool:= !v13
   bif v14 then (
    Option.map Sum.inr (
     some false)) else
   let v15:Bool:=decide (0<v9)
   bif v15 then (
    (gget 0 v0.2.2 v9).bind fun v16=>
    let v17:Int:=wrap .i64 (v9 - 1)
    (gget 0 v0.2.2 v17).bind fun v18=>
    let v19:Bool:=decide (v16<=v18)
    bif v19 then (
     Option.map Sum.inr (
      some false)) else
    let v20:Int:=wrap .i64 (v9+1)
    some (.inl v20)) else
   let v16:Int:=wrap .i64 (v9+1)
   some (.inl v16)) else
  Option.map Sum.inr (
   (spec_NodeCount v0.1).bind fun v12=>
   (gmake 1 (false:Bool) v12).bind fun v13=>
   (gin (v13).length v0.2.1).bind fun _=>
   (gget false v13 v0.2.1).bind fun v15=>
   let v16:Bool:=true
   let v17:List Bool:=gset v13 v0.2.1 v16
   Pu.loop (fun (v18:(Int×List Bool))=>
    let v19:Bool:=decide (0<v18.1)
    bif v19 then (
     (gin (v18.2).length v18.1).bind fun _=>
     (gget false v18.2 v18.1).bind fun v21=>
     let v22:Bool:= !v21
     bif v22 then (
      let v23:Int:=wrap .i64 (v18.1 - 1)
      some (.inl (v23,v18.2))) else
     (spec_l13Has (v0.2.2,v18.1)).bind fun v23=>
     bif v23 then (
      let v24:Int:=wrap .i64 (v18.1 - 1)
      some (.inl (v24,v18.2))) else
     (spec_l08First v0.1).bind fun v24=>
     let v25:Bool:=decide (v18.1<v24)
     bif v25 then (
      Option.map Sum.inr (
       some false)) else
     (spec_l08First v0.1).bind fun v26=>
     let v27:Int:=wrap .i64 (v18.1 - v26)
     (gget (0,0) v0.1.2.2.1 v27).bind fun v28=>
     (gdiv .i64 v28.1 2).bind fun v29=>
     (gin (v18.2).length v29).bind fun _=>
     (gget false v18.2 v29).bind fun v31=>
     let v32:Bool:=true
     let v33:List Bool:=gset v18.2 v29 v32
     (gdiv .i64 v28.2 2).bind fun v34=>
     (gin (v33).length v34).bind fun _=>
     (gget false v33 v34).bind fun v36=>
     let v37:Bool:=true
     let v38:List Bool:=gset v33 v34 v37
     let v39:Int:=wrap .i64 (v18.1 - 1)
     some (.inl (v39,v38))) else
    Option.map Sum.inr (
     some true)) (v0.2.1,v17))) 0
noncomputable def spec_l17Cut (v0:((Int×(List (Int×(Int×List Int))×(List (Int×Int)×List Int)))×(List Int×(Int×Int)))):Option (List Int×Bool):=
 (spec_Cone (v0.1,v0.2.2.1)).bind fun v1=>
 (spec_NodeCount v0.1).bind fun v2=>
 (gmake 1 (false:Bool) v2).bind fun v3=>
 Pu.loop (fun (v4:(Int×List Bool))=>
  let v5:Int:=((v1).length:Int)
  let v6:Bool:=decide (v4.1<v5)
  bif v6 then (
   (gin (v1).length v4.1).bind fun _=>
   (gget 0 v1 v4.1).bind fun v8=>
   (gin (v1).length v4.1).bind fun _=>
   (gget 0 v1 v4.1).bind fun v10=>
   let v11:Bool:=decide (v10=v0.2.2.1)
   bif v11 then (
    (gin (v4.2).length v8).bind fun _=>
    (gget false v4.2 v8).bind fun v13=>
    let v14:Bool:=true
    let v15:List Bool:=gset v4.2 v8 v14
    let v16:Int:=wrap .i64 (v4.1+1)
    some (.inl (v16,v15))) else
   (gin (v1).length v4.1).bind fun _=>
   (gget 0 v1 v4.1).bind fun v13=>
   (gget 0 v0.2.1 v13).bind fun v14=>
   let v15:Bool:=decide (v0.2.2.2<=v14)
   (gin (v4.2).length v8).bind fun _=>
   (gget false v4.2 v8).bind fun v17=>
   let v18:Bool:=v15
   let v19:List Bool:=gset v4.2 v8 v18
   let v20:Int:=wrap .i64 (v4.1+1)
   some (.inl (v20,v19))) else
  Option.map Sum.inr (
   (spec_NodeCount v0.1).bind fun v7=>
   (gmake 1 (false:Bool) v7).bind fun v8=>
   (spec_NodeCount v0.1).bind fun v9=>
   (gmake 8 (0:Int) v9).bind fun v10=>
   Pu.loop (fun (v11:Int)=>
    (spec_l08First v0.1).bind fun v12=>
    let v13:Bool:=decide (v11<v12)
    bif v13 then (
     (gin (v4.2).length v11).bind fun _=>
     (gget false v4.2 v11).bind fun v15=>
     bif v15 then (
      Option.map Sum.inr (
       some (([]:List Int),false))) else
     let v16:Int:=wrap .i64 (v11+1)
     some (.inl v16)) else
    Option.map Sum.inr (
     Pu.loop (fun (v14:(Int×(List Bool×List Int)))=>
      let v15:Bool:=decide (v14.1<=4)
      bif v15 then (
       (spec_l17Search (v0.1,(v4.2,v14.2))).bind fun v16=>
       let v17:Bool:=decide (v16.2<0)
       bif v17 then (
        Pu.loop (fun (v18:(Int×List Int))=>
         (spec_NodeCount v0.1).bind fun v19=>
         let v20:Bool:=decide (v18.1<v19)
         bif v20 then (
          let v21:Int:=wrap .i64 (2*v18.1)
          (gin (v16.1).length v21).bind fun _=>
          (gget 0 v16.1 v21).bind fun v23=>
          let v24:Bool:=decide (v23≠(-2))
          bif v24 then (
           let v25:Int:=wrap .i64 (2*v18.1)
           let v26:Int:=wrap .i64 (v25+1)
           (gin (v16.1).length v26).bind fun _=>
           (gget 0 v16.1 v26).bind fun v28=>
           let v29:Bool:=decide (v28=(-2))
           bif v29 then (
            let v30:List Int:=[v18.1]
            (gapp 8 v18.2 v30).bind fun v31=>
            let v32:Int:=wrap .i64 (v18.1+1)
            some (.inl (v32,v31))) else
           let v30:Int:=wrap .i64 (v18.1+1)
           some (.inl (v30,v18.2))) else
          let v25:Int:=wrap .i64 (v18.1+1)
          some (.inl (v25,v18.2))) else
         Option.map Sum.inr (
          Option.map Sum.inr (
           some (v18.2,true)))) (0,([]:List Int))) else
       Pu.loop (fun (v18:(Int×(List Bool×List Int)))=>
        let v19:Bool:=decide (0<=v18.1)
        bif v19 then (
         (gin (v16.1).length v18.1).bind fun _=>
         (gget 0 v16.1 v18.1).bind fun v21=>
         (gdiv .i64 v18.1 2).bind fun v22=>
         joinO (
          (grem v18.1 2).bind fun v23=>
          let v24:Bool:=decide (v23=1)
          bif v24 then (
           let v25:Int:=wrap .i64 (v18.1 - 1)
           let v26:Bool:=decide (v21=v25)
           bif v26 then (
            (gin (v18.2.1).length v22).bind fun _=>
            (gget false v18.2.1 v22).bind fun v28=>
            let v29:Bool:=true
            let v30:List Bool:=gset v18.2.1 v22 v29
            some (.inl v30)) else
           some (.inl v18.2.1)) else
          some (.inl v18.2.1)) (fun (v23:List Bool)=>
          joinO (
           (grem v18.1 2).bind fun v24=>
           let v25:Bool:=decide (v24=0)
           bif v25 then (
            let v26:Int:=wrap .i64 (v18.1+1)
            let v27:Bool:=decide (v21=v26)
            bif v27 then (
             (gin (v23).length v22).bind fun _=>
             (gget false v23 v22).bind fun v29=>
             let v30:Bool:=false
             let v31:List Bool:=gset v23 v22 v30
             some (.inl v31)) else
            some (.inl v23)) else
           some (.inl v23)) (fun (v24:List Bool)=>
           joinO (
            (grem v18.1 2).bind fun v25=>
            let v26:Bool:=decide (v25=0)
            bif v26 then (
             let v27:Bool:=decide (v21=(-1))
             bif v27 then (
              (gin (v18.2.2).length v22).bind fun _=>
              (gget 0 v18.2.2 v22).bind fun v29=>
              let v30:Int:=(-1)
              let v31:List Int:=gset v18.2.2 v22 v30
              some (.inl v31)) else
             some (.inl v18.2.2)) else
            some (.inl v18.2.2)) (fun (v25:List Int)=>
            (grem v18.1 2).bind fun v26=>
            let v27:Bool:=decide (v26=0)
            bif v27 then (
             let v28:Bool:=decide (0<=v21)
             bif v28 then (
              let v29:Int:=wrap .i64 (v18.1+1)
              let v30:Bool:=decide (v21≠v29)
              bif v30 then (
               (gdiv .i64 v21 2).bind fun v31=>
               (gin (v25).length v22).bind fun _=>
               (gget 0 v25 v22).bind fun v33=>
               let v34:Int:=v31
               let v35:List Int:=gset v25 v22 v34
               some (.inl (v21,(v24,v35)))) else
              some (.inl (v21,(v24,v25)))) else
             some (.inl (v21,(v24,v25)))) else
            some (.inl (v21,(v24,v25))))))) else
        Option.map Sum.inr (
         let v20:Int:=wrap .i64 (v14.1+1)
         some (.inl (v20,v18.2)))) (v16.2,v14.2)) else
      Option.map Sum.inr (
       some (([]:List Int),false))) (0,(v8,v10)))) 0)) (0,v3)
noncomputable def spec_l10Finish (v0:((Int×(List (Int×(Int×List Int))×(List (Int×Int)×List Int)))×((Int×(List (Int×(Int×List Int))×(List (Int×Int)×List Int)))×List Int))):Option ((Int×(List (Int×(Int×List Int))×(List (Int×Int)×List Int)))×(List (Int×(Int×List Int))×(List (Int×Int)×List Int))):=
 Pu.loop (fun (v1:(Int×List (Int×(Int×List Int))))=>
  let v2:Int:=((v1.2).length:Int)
  let v3:Bool:=decide (v1.1<v2)
  bif v3 then (
   (gget (0,(0,[])) v0.2.1.2.1 v1.1).bind fun v4=>
   (spec_l10Map (v0.2.2,v4.2.2)).bind fun v5=>
   (gin (v1.2).length v1.1).bind fun _=>
   (gget (0,(0,[])) v1.2 v1.1).bind fun v7=>
   let v8:(Int×(Int×List Int)):=(v7.1,(v7.2.1,v5))
   let v9:List (Int×(Int×List Int)):=gset v1.2 v1.1 v8
   let v10:Int:=wrap .i64 (v1.1+1)
   some (.inl (v10,v9))) else
  Option.map Sum.inr (
   (spec_l10Map (v0.2.2,v0.2.1.2.2.2)).bind fun v4=>
   (spec_Sweep (v0.1.1,(v1.2,(v0.1.2.2.1,v4)))).bind fun v5=>
   some (v5,(v1.2,v0.1.2.2)))) (0,v0.1.2.1)
noncomputable def spec_MappingOk (v0:((Int×(List (Int×(Int×List Int))×(List (Int×Int)×List Int)))×List (List Int))):Option Bool:=
 (spec_NetOk v0.1).bind fun v1=>
 let v2:Bool:= !v1
 bif v2 then (
  some false) else
 let v3:Int:=((v0.2).length:Int)
 let v4:Int:=((v0.1.2.2.1).length:Int)
 let v5:Bool:=decide (v3≠v4)
 bif v5 then (
  some false) else
 Pu.loop (fun (v6:Int)=>
  let v7:Int:=((v0.2).length:Int)
  let v8:Bool:=decide (v6<v7)
  bif v8 then (
   (gget [] v0.2 v6).bind fun v9=>
   (spec_l08First v0.1).bind fun v10=>
   let v11:Int:=wrap .i64 (v10+v6)
   (spec_CutOk (v0.1,(v11,v9))).bind fun v12=>
   let v13:Bool:= !v12
   bif v13 then (
    Option.map Sum.inr (
     some false)) else
   (gget [] v0.2 v6).bind fun v14=>
   (spec_l08First v0.1).bind fun v15=>
   let v16:Int:=wrap .i64 (v15+v6)
   (spec_l13Has (v14,v16)).bind fun v17=>
   bif v17 then (
    Option.map Sum.inr (
     some false)) else
   let v18:Int:=wrap .i64 (v6+1)
   some (.inl v18)) else
  Option.map Sum.inr (
   some true)) 0
noncomputable def spec_CutTable (v0:((Int×(List (Int×(Int×List Int))×(List (Int×Int)×List Int)))×(Int×List Int))):Option (Int×Int):=
 (spec_CutOk v0).bind fun v1=>
 let v2:Bool:= !v1
 bif v2 then (
  some (0,0)) else
 let v3:Int:=((v0.2.2).length:Int)
 Pu.loop (fun (v4:(Int×Int))=>
  let v5:Int:=((v0.2.2).length:Int)
  (gshift true .i64 1 v5).bind fun v6=>
  let v7:Bool:=decide (v4.1<v6)
  bif v7 then (
   (spec_NodeCount v0.1).bind fun v8=>
   (gmake 8 (0:Int) v8).bind fun v9=>
   Pu.loop (fun (v10:(Int×List Int))=>
    let v11:Bool:=decide (v10.1<=v0.2.1)
    bif v11 then (
     Pu.loop (fun (v12:(Bool×(Int×List Int)))=>
      let v13:Int:=((v0.2.2).length:Int)
      let v14:Bool:=decide (v12.2.1<v13)
      bif v14 then (
       (gget 0 v0.2.2 v12.2.1).bind fun v15=>
       let v16:Bool:=decide (v15=v10.1)
       bif v16 then (
        (gshift false .i64 v4.1 v12.2.1).bind fun v17=>
        let v18:Int:=gand .i64 v17 1
        (gin (v12.2.2).length v10.1).bind fun _=>
        (gget 0 v12.2.2 v10.1).bind fun v20=>
        let v21:Int:=v18
        let v22:List Int:=gset v12.2.2 v10.1 v21
        let v23:Int:=wrap .i64 (v12.2.1+1)
        some (.inl (true,(v23,v22)))) else
       let v17:Int:=wrap .i64 (v12.2.1+1)
       some (.inl (v12.1,(v17,v12.2.2)))) else
      Option.map Sum.inr (
       let v15:Bool:= !v12.1
       bif v15 then (
        (spec_l08First v0.1).bind fun v16=>
        let v17:Bool:=decide (v16<=v10.1)
        bif v17 then (
         (spec_l08First v0.1).bind fun v18=>
         let v19:Int:=wrap .i64 (v10.1 - v18)
         (gget (0,0) v0.1.2.2.1 v19).bind fun v20=>
         (spec_l09Bit (v12.2.2,v20.1)).bind fun v21=>
         (spec_l09Bit (v12.2.2,v20.2)).bind fun v22=>
         let v23:Int:=gand .i64 v21 v22
         (gin (v12.2.2).length v10.1).bind fun _=>
         (gget 0 v12.2.2 v10.1).bind fun v25=>
         let v26:Int:=v23
         let v27:List Int:=gset v12.2.2 v10.1 v26
         let v28:Int:=wrap .i64 (v10.1+1)
         some (.inl (v28,v27))) else
        let v18:Int:=wrap .i64 (v10.1+1)
        some (.inl (v18,v12.2.2))) else
       let v16:Int:=wrap .i64 (v10.1+1)
       some (.inl (v16,v12.2.2)))) (false,(0,v10.2))) else
    Option.map Sum.inr (
     (gin (v10.2).length v0.2.1).bind fun _=>
     (gget 0 v10.2 v0.2.1).bind fun v13=>
     (gshift true .i64 v13 v4.1).bind fun v14=>
     let v15:Int:=wrap .i64 (v4.2+v14)
     let v16:Int:=wrap .i64 (v4.1+1)
     some (.inl (v16,v15)))) (0,v9)) else
  Option.map Sum.inr (
   some (v3,v4.2))) (0,0)
noncomputable def spec_Labels (v0:(Int×(List (Int×(Int×List Int))×(List (Int×Int)×List Int)))):Option (List Int):=
 (spec_NetOk v0).bind fun v1=>
 let v2:Bool:= !v1
 bif v2 then (
  some ([]:List Int)) else
 (spec_NodeCount v0).bind fun v3=>
 (gmake 8 (0:Int) v3).bind fun v4=>
 (spec_l08First v0).bind fun v5=>
 Pu.loop (fun (v6:(Int×List Int))=>
  (spec_NodeCount v0).bind fun v7=>
  let v8:Bool:=decide (v6.1<v7)
  bif v8 then (
   (spec_l08First v0).bind fun v9=>
   let v10:Int:=wrap .i64 (v6.1 - v9)
   (gget (0,0) v0.2.2.1 v10).bind fun v11=>
   (gdiv .i64 v11.1 2).bind fun v12=>
   (gin (v6.2).length v12).bind fun _=>
   (gget 0 v6.2 v12).bind fun v14=>
   (gdiv .i64 v11.2 2).bind fun v15=>
   (gin (v6.2).length v15).bind fun _=>
   (gget 0 v6.2 v15).bind fun v17=>
   let v18:Int:=if v14<v17 then v17 else v14
   let v19:Int:=wrap .i64 (v18+1)
   (gin (v6.2).length v6.1).bind fun _=>
   (gget 0 v6.2 v6.1).bind fun v21=>
   let v22:Int:=v19
   let v23:List Int:=gset v6.2 v6.1 v22
   let v24:Bool:=decide (0<v18)
   bif v24 then (
    (spec_l17Cut (v0,(v23,(v6.1,v18)))).bind fun v25=>
    bif v25.2 then (
     (gin (v23).length v6.1).bind fun _=>
     (gget 0 v23 v6.1).bind fun v27=>
     let v28:Int:=v18
     let v29:List Int:=gset v23 v6.1 v28
     let v30:Int:=wrap .i64 (v6.1+1)
     some (.inl (v30,v29))) else
    let v26:Int:=wrap .i64 (v6.1+1)
    some (.inl (v26,v23))) else
   let v25:Int:=wrap .i64 (v6.1+1)
   some (.inl (v25,v23))) else
  Option.map Sum.inr (
   some v6.2)) (v5,v4)
noncomputable def spec_Hash (v0:(Int×(List (Int×(Int×List Int))×(List (Int×Int)×List Int)))):Option (Int×(List (Int×(Int×List Int))×(List (Int×Int)×List Int))):=
 (spec_NetOk v0).bind fun v1=>
 let v2:Bool:= !v1
 bif v2 then (
  some (0,(([]:List (Int×(Int×List Int))),(([]:List (Int×Int)),([]:List Int))))) else
 (spec_l10Empty v0).bind fun v3=>
 Pu.loop (fun (v4:(Int×(List (Int×(Int×List Int))×(List (Int×Int)×(List Int×(List Int×Int))))))=>
  let v5:Int:=((v0.2.2.1).length:Int)
  let v6:Bool:=decide (v4.1<v5)
  bif v6 then (
   (gget (0,0) v0.2.2.1 v4.1).bind fun v7=>
   (gdiv .i64 v7.1 2).bind fun v8=>
   (gin (v4.2.2.2.2.1).length v8).bind fun _=>
   (gget 0 v4.2.2.2.2.1 v8).bind fun v10=>
   (gget (0,0) v0.2.2.1 v4.1).bind fun v11=>
   let v12:Int:=gand .i64 v11.1 1
   let v13:Int:=gxor .i64 v10 v12
   (gget (0,0) v0.2.2.1 v4.1).bind fun v14=>
   (gdiv .i64 v14.2 2).bind fun v15=>
   (gin (v4.2.2.2.2.1).length v15).bind fun _=>
   (gget 0 v4.2.2.2.2.1 v15).bind fun v17=>
   (gget (0,0) v0.2.2.1 v4.1).bind fun v18=>
   let v19:Int:=gand .i64 v18.2 1
   let v20:Int:=gxor .i64 v17 v19
   (spec_AddAnd ((v4.2.2.2.2.2,(v4.2.1,(v4.2.2.1,v4.2.2.2.1))),(v13,v20))).bind fun v21=>
   let v22:List Int:=[v21.2]
   (gapp 8 v4.2.2.2.2.1 v22).bind fun v23=>
   let v24:Int:=wrap .i64 (v4.1+1)
   some (.inl (v24,(v21.1.2.1,(v21.1.2.2.1,(v21.1.2.2.2,(v23,v21.1.1))))))) else
  Option.map Sum.inr (
   (spec_l10Finish ((v4.2.2.2.2.2,(v4.2.1,(v4.2.2.1,v4.2.2.2.1))),(v0,v4.2.2.2.2.1))).bind fun v7=>
   some v7.1)) (0,(v3.1.2.1,(v3.1.2.2.1,(v3.1.2.2.2,(v3.2,v3.1.1)))))
noncomputable def spec_ToLuts (v0:((Int×(List (Int×(Int×List Int))×(List (Int×Int)×List Int)))×List (List Int))):Option ((Int×(List (Int×(Int×List Int))×(List (List Int×Int)×List Int)))×Bool):=
 (spec_MappingOk v0).bind fun v1=>
 let v2:Bool:= !v1
 bif v2 then (
  some ((0,(([]:List (Int×(Int×List Int))),(([]:List (List Int×Int)),([]:List Int)))),false)) else
 (spec_NodeCount v0.1).bind fun v3=>
 (spec_l08First v0.1).bind fun v4=>
 (gmake 1 (false:Bool) v3).bind fun v5=>
 (gmake 1 (false:Bool) v3).bind fun v6=>
 (spec_l08Roots v0.1).bind fun v7=>
 Pu.loop (fun (v8:(Int×(List Bool×List Bool)))=>
  let v9:Int:=((v7).length:Int)
  let v10:Bool:=decide (v8.1<v9)
  bif v10 then (
   (gin (v7).length v8.1).bind fun _=>
   (gget 0 v7 v8.1).bind fun v12=>
   (grem v12 2).bind fun v13=>
   let v14:Bool:=decide (v13=0)
   bif v14 then (
    (gin (v7).length v8.1).bind fun _=>
    (gget 0 v7 v8.1).bind fun v16=>
    (gdiv .i64 v16 2).bind fun v17=>
    (gin (v8.2.1).length v17).bind fun _=>
    (gget false v8.2.1 v17).bind fun v19=>
    let v20:Bool:=true
    let v21:List Bool:=gset v8.2.1 v17 v20
    let v22:Int:=wrap .i64 (v8.1+1)
    some (.inl (v22,(v21,v8.2.2)))) else
   (gin (v7).length v8.1).bind fun _=>
   (gget 0 v7 v8.1).bind fun v16=>
   (gdiv .i64 v16 2).bind fun v17=>
   (gin (v8.2.2).length v17).bind fun _=>
   (gget false v8.2.2 v17).bind fun v19=>
   let v20:Bool:=true
   let v21:List Bool:=gset v8.2.2 v17 v20
   let v22:Int:=wrap .i64 (v8.1+1)
   some (.inl (v22,(v8.2.1,v21)))) else
  Option.map Sum.inr (
   let v11:Int:=((v0.2).length:Int)
   let v12:Int:=wrap .i64 (v11 - 1)
   Pu.loop (fun (v13:(Int×List Bool))=>
    let v14:Bool:=decide (0<=v13.1)
    bif v14 then (
     joinO (
      Pu.loop (fun (v15:(Int×List Bool))=>
       (gget [] v0.2 v13.1).bind fun v16=>
       let v17:Int:=((v16).length:Int)
       let v18:Bool:=decide (v15.1<v17)
       bif v18 then (
        let v19:Int:=wrap .i64 (v4+v13.1)
        (gin (v15.2).length v19).bind fun _=>
        (gget false v15.2 v19).bind fun v21=>
        bif v21 then (
         (gget [] v0.2 v13.1).bind fun v22=>
         (gget 0 v22 v15.1).bind fun v23=>
         (gin (v15.2).length v23).bind fun _=>
         (gget false v15.2 v23).bind fun v25=>
         let v26:Bool:=true
         let v27:List Bool:=gset v15.2 v23 v26
         let v28:Int:=wrap .i64 (v15.1+1)
         some (.inl (v28,v27))) else
        let v22:Int:=wrap .i64 (v4+v13.1)
        (gin (v8.2.2).length v22).bind fun _=>
        (gget false v8.2.2 v22).bind fun v24=>
        bif v24 then (
         (gget [] v0.2 v13.1).bind fun v25=>
         (gget 0 v25 v15.1).bind fun v26=>
         (gin (v15.2).length v26).bind fun _=>
         (gget false v15.2 v26).bind fun v28=>
         let v29:Bool:=true
         let v30:List Bool:=gset v15.2 v26 v29
         let v31:Int:=wrap .i64 (v15.1+1)
         some (.inl (v31,v30))) else
        Option.map Sum.inr (
         some (.inl v15.2))) else
       Option.map Sum.inr (
        some (.inl v15.2))) (0,v13.2)) (fun (v15:List Bool)=>
      let v16:Int:=wrap .i64 (v13.1 - 1)
      some (.inl (v16,v15)))) else
    Option.map Sum.inr (
     (gmake 8 (0:Int) v3).bind fun v15=>
     Pu.loop (fun (v16:(Int×List Int))=>
      let v17:Bool:=decide (v16.1<v4)
      bif v17 then (
       let v18:List Int:=[v16.1]
       (gapp 8 v16.2 v18).bind fun v19=>
       let v20:Int:=wrap .i64 (v16.1+1)
       some (.inl (v20,v19))) else
      Option.map Sum.inr (
       Pu.loop (fun (v18:(Int×(List (List Int×Int)×List Int)))=>
        let v19:Int:=((v0.2).length:Int)
        let v20:Bool:=decide (v18.1<v19)
        bif v20 then (
         let v21:Int:=((v18.2.1).length:Int)
         let v22:Int:=wrap .i64 (v4+v21)
         let v23:List Int:=[v22]
         (gapp 8 v18.2.2 v23).bind fun v24=>
         let v25:Int:=wrap .i64 (v4+v18.1)
         (gin (v13.2).length v25).bind fun _=>
         (gget false v13.2 v25).bind fun v27=>
         bif v27 then (
          let v28:Int:=wrap .i64 (v4+v18.1)
          (gget [] v0.2 v18.1).bind fun v29=>
          (spec_CutTable (v0.1,(v28,v29))).bind fun v30=>
          (gget [] v0.2 v18.1).bind fun v31=>
          (spec_l20Nodes (v24,v31)).bind fun v32=>
          let v33:List (List Int×Int):=[(v32,v30.2)]
          (gapp 32 v18.2.1 v33).bind fun v34=>
          let v35:Int:=wrap .i64 (v18.1+1)
          some (.inl (v35,(v34,v24)))) else
         let v28:Int:=wrap .i64 (v18.1+1)
         some (.inl (v28,(v18.2.1,v24)))) else
        Option.map Sum.inr (
         Pu.loop (fun (v21:(Int×(List Int×List (List Int×Int))))=>
          let v22:Bool:=decide (v21.1<v3)
          bif v22 then (
           (gin (v8.2.2).length v21.1).bind fun _=>
           (gget false v8.2.2 v21.1).bind fun v24=>
           let v25:Bool:= !v24
           bif v25 then (
            let v26:Int:=wrap .i64 (v21.1+1)
            some (.inl (v26,v21.2))) else
           let v26:Int:=((v21.2.2).length:Int)
           let v27:Int:=wrap .i64 (v4+v26)
           (gin (v21.2.1).length v21.1).bind fun _=>
           (gget 0 v21.2.1 v21.1).bind fun v29=>
           let v30:Int:=v27
           let v31:List Int:=gset v21.2.1 v21.1 v30
           let v32:Bool:=decide (v4<=v21.1)
           bif v32 then (
            let v33:Int:=wrap .i64 (v21.1 - v4)
            (gget [] v0.2 v33).bind fun v34=>
            (spec_CutTable (v0.1,(v21.1,v34))).bind fun v35=>
            (spec_TableNot v35).bind fun v36=>
            let v37:Int:=wrap .i64 (v21.1 - v4)
            (gget [] v0.2 v37).bind fun v38=>
            (spec_l20Nodes (v18.2.2,v38)).bind fun v39=>
            let v40:List (List Int×Int):=[(v39,v36.2)]
            (gapp 32 v21.2.2 v40).bind fun v41=>
            let v42:Int:=wrap .i64 (v21.1+1)
            some (.inl (v42,(v31,v41)))) else
           let v33:Bool:=decide (0<v21.1)
           bif v33 then (
            let v34:List Int:=[v21.1]
            let v35:List (List Int×Int):=[(v34,1)]
            (gapp 32 v21.2.2 v35).bind fun v36=>
            let v37:Int:=wrap .i64 (v21.1+1)
            some (.inl (v37,(v31,v36)))) else
           let v34:List (List Int×Int):=[(([]:List Int),1)]
           (gapp 32 v21.2.2 v34).bind fun v35=>
           let v36:Int:=wrap .i64 (v21.1+1)
           some (.inl (v36,(v31,v35)))) else
          Option.map Sum.inr (
           Pu.loop (fun (v23:(Int×List (Int×(Int×List Int))))=>
            let v24:Int:=((v0.1.2.1).length:Int)
            let v25:Bool:=decide (v23.1<v24)
            bif v25 then (
             (gget (0,(0,[])) v0.1.2.1 v23.1).bind fun v26=>
             (gget (0,(0,[])) v0.1.2.1 v23.1).bind fun v27=>
             (gget (0,(0,[])) v0.1.2.1 v23.1).bind fun v28=>
             (spec_l20Roots (v18.2.2,(v21.2.1,v28.2.2))).bind fun v29=>
             let v30:List (Int×(Int×List Int)):=[(v26.1,(v27.2.1,v29))]
             (gapp 40 v23.2 v30).bind fun v31=>
             let v32:Int:=wrap .i64 (v23.1+1)
             some (.inl (v32,v31))) else
            Option.map Sum.inr (
             (spec_l20Roots (v18.2.2,(v21.2.1,v0.1.2.2.2))).bind fun v26=>
             some ((v0.1.1,(v23.2,(v21.2.2,v26))),true))) (0,([]:List (Int×(Int×List Int)))))) (0,(v15,v18.2.1)))) (0,(([]:List (List Int×Int)),v16.2)))) (0,([]:List Int)))) (v12,v8.2.1))) (0,(v5,v6))
noncomputable def spec_DepthMapping (v0:(Int×(List (Int×(Int×List Int))×(List (Int×Int)×List Int)))):Option (List (List Int)):=
 (spec_NetOk v0).bind fun v1=>
 let v2:Bool:= !v1
 bif v2 then (
  some ([]:List (List Int))) else
 (spec_Labels v0).bind fun v3=>
 (spec_l08First v0).bind fun v4=>
 Pu.loop (fun (v5:(Int×List (List Int)))=>
  (spec_NodeCount v0).bind fun v6=>
  let v7:Bool:=decide (v5.1<v6)
  bif v7 then (
   (gin (v3).length v5.1).bind fun _=>
   (gget 0 v3 v5.1).bind fun v9=>
   (spec_l17Cut (v0,(v3,(v5.1,v9)))).bind fun v10=>
   let v11:List (List Int):=[v10.1]
   (gapp 24 v5.2 v11).bind fun v12=>
   let v13:Int:=wrap .i64 (v5.1+1)
   some (.inl (v13,v12))) else
  Option.map Sum.inr (
   some v5.2)) (v4,([]:List (List Int)))
noncomputable def spec_l29Task (v0:(List Int×(Int×Int))):Option ((Int×(Int×(Int×Int)))×((Int×(List (Int×(Int×List Int))×(List (List Int×Int)×List Int)))×(List (Int×(Int×List (Int×Int)))×(Int×Int)))):=
 (spec_l01Below (v0,2)).bind fun v1=>
 let v2:Int:=wrap .i64 (4+v1.1)
 (spec_l01Below ((v0.1,v1.2),2)).bind fun v3=>
 let v4:Int:=wrap .i64 (4+v3.1)
 (spec_l01Below ((v0.1,v3.2),3)).bind fun v5=>
 let v6:Int:=wrap .i64 (2+v5.1)
 Pu.loop (fun (v7:(Int×(Int×Int)))=>
  let v8:Bool:=decide (v7.1<4)
  bif v8 then (
   (spec_l08Sized ((v0.1,v7.2),(3,(2,8)))).bind fun v9=>
   (spec_Hash v9.1).bind fun v10=>
   joinO (
    let v11:Bool:=decide (v7.1=3)
    bif v11 then (
     (spec_SampleNet ()).bind fun v12=>
     some (.inl v12)) else
    some (.inl v10)) (fun (v11:(Int×(List (Int×(Int×List Int))×(List (Int×Int)×List Int))))=>
    joinO (
     (spec_DepthMapping v11).bind fun v12=>
     (spec_ToLuts (v11,v12)).bind fun v13=>
     some (.inl (v13.1.2.1,(v13.1.2.2.1,(v13.1.2.2.2,v13.1.1))))) (fun (v12:(List (Int×(Int×List Int))×(List (List Int×Int)×(List Int×Int))))=>
     (spec_Pack (v12.2.2.2,(v12.1,(v12.2.1,v12.2.2.1)))).bind fun v13=>
     joinO (
      bif v13.2 then (
       let v14:Int:=((v13.1).length:Int)
       (spec_l29Kinds v13.1).bind fun v15=>
       (spec_l29Random ((v0.1,v9.2),((v2,(v4,(v6,1))),v15))).bind fun v16=>
       let v17:Int:=((v16.1).length:Int)
       let v18:Bool:=decide (v17=v14)
       some (.inl (v18,v16.2))) else
      some (.inl (false,v9.2))) (fun (v14:(Bool×(Int×Int)))=>
      bif v14.1 then (
       Option.map Sum.inr (
        some ((v2,(v4,(v6,1))),((v12.2.2.2,(v12.1,(v12.2.1,v12.2.2.1))),(v13.1,v14.2))))) else
      let v15:Int:=wrap .i64 (v7.1+1)
      some (.inl (v15,v14.2)))))) else
  Option.map Sum.inr (
   some ((v2,(v4,(v6,1))),((0,(([]:List (Int×(Int×List Int))),(([]:List (List Int×Int)),([]:List Int)))),(([]:List (Int×(Int×List (Int×Int)))),v7.2))))) (0,v5.2)
noncomputable def spec_l29Drawn (v0:(List Int×(Int×Int))):Option ((Int×(Int×(Int×Int)))×(List Int×(List (Int×((Int×Int)×List (Int×Int)))×(List Int×(Int×Int))))):=
 (spec_l01Once (v0,2)).bind fun v1=>
 bif v1.1 then (
  (spec_l29Task (v0.1,v1.2)).bind fun v2=>
  (spec_l29Kinds v2.2.2.1).bind fun v3=>
  (spec_ConnsOf (v2.2.1,v2.2.2.1)).bind fun v4=>
  (spec_l29Random ((v0.1,v2.2.2.2),(v2.1,v3))).bind fun v5=>
  some (v2.1,(v3,(v4,v5)))) else
 (spec_l26Device (v0.1,v1.2)).bind fun v2=>
 (spec_l01Below ((v0.1,v2.2),5)).bind fun v3=>
 let v4:Int:=wrap .i64 (1+v3.1)
 Pu.loop (fun (v5:(Int×(Int×(Int×List Int))))=>
  let v6:Bool:=decide (0<v5.1)
  bif v6 then (
   let v7:List Int:=[0,1,3,3]
   (spec_l01PickInt ((v0.1,(v5.2.1,v5.2.2.1)),v7)).bind fun v8=>
   let v9:List Int:=[v8.1]
   (gapp 8 v5.2.2.2 v9).bind fun v10=>
   let v11:Int:=wrap .i64 (v5.1 - 1)
   some (.inl (v11,(v8.2.1,(v8.2.2,v10))))) else
  Option.map Sum.inr (
   joinO (
    (spec_TilesOf (v2.1,1)).bind fun v7=>
    let v8:Int:=((v7).length:Int)
    let v9:Bool:=decide (v8=0)
    bif v9 then (
     let v10:List Int:=[0,1]
     some (.inl v10)) else
    some (.inl v5.2.2.2)) (fun (v7:List Int)=>
    (spec_l29Random ((v0.1,(v5.2.1,v5.2.2.1)),(v2.1,v7))).bind fun v8=>
    joinO (
     let v9:Int:=((v8.1).length:Int)
     let v10:Bool:=decide (v9=0)
     bif v10 then (
      let v11:List Int:=[0,1]
      (spec_l29Random ((v0.1,v8.2),(v2.1,v11))).bind fun v12=>
      some (.inl (v12.2.1,(v12.2.2,(v11,v12.1))))) else
     some (.inl (v8.2.1,(v8.2.2,(v7,v8.1))))) (fun (v9:(Int×(Int×(List Int×List Int))))=>
     (spec_l01Below ((v0.1,(v9.1,v9.2.1)),5)).bind fun v10=>
     Pu.loop (fun (v11:(Int×(Int×(Int×List (Int×((Int×Int)×List (Int×Int)))))))=>
      let v12:Bool:=decide (0<v11.1)
      bif v12 then (
       let v13:Int:=((v9.2.2.1).length:Int)
       (spec_l01Below ((v0.1,(v11.2.1,v11.2.2.1)),v13)).bind fun v14=>
       (spec_l01Below ((v0.1,v14.2),2)).bind fun v15=>
       (spec_l01Below ((v0.1,v15.2),3)).bind fun v16=>
       Pu.loop (fun (v17:(Int×(Int×(Int×List (Int×Int)))))=>
        let v18:Bool:=decide (0<=v17.1)
        bif v18 then (
         let v19:Int:=((v9.2.2.1).length:Int)
         (spec_l01Below ((v0.1,(v17.2.1,v17.2.2.1)),v19)).bind fun v20=>
         (spec_l01Below ((v0.1,v20.2),5)).bind fun v21=>
         let v22:List (Int×Int):=[(v20.1,v21.1)]
         (gapp 16 v17.2.2.2 v22).bind fun v23=>
         let v24:Int:=wrap .i64 (v17.1 - 1)
         some (.inl (v24,(v21.2.1,(v21.2.2,v23))))) else
        Option.map Sum.inr (
         let v19:List (Int×((Int×Int)×List (Int×Int))):=[(v11.1,((v14.1,v15.1),v17.2.2.2))]
         (gapp 48 v11.2.2.2 v19).bind fun v20=>
         let v21:Int:=wrap .i64 (v11.1 - 1)
         some (.inl (v21,(v17.2.1,(v17.2.2.1,v20)))))) (v16.1,(v16.2.1,(v16.2.2,([]:List (Int×Int)))))) else
      Option.map Sum.inr (
       some (v2.1,(v9.2.2.1,(v11.2.2.2,(v9.2.2.2,(v11.2.1,v11.2.2.1))))))) (v10.1,(v10.2.1,(v10.2.2,([]:List (Int×((Int×Int)×List (Int×Int))))))))))) (v4,(v3.2.1,(v3.2.2,([]:List Int))))
noncomputable def spec_DrawPlaced (v0:List Int):Option ((Int×(Int×(Int×Int)))×(List Int×(List (Int×((Int×Int)×List (Int×Int)))×List Int))):=
 (spec_l01New v0).bind fun v1=>
 (spec_l29Drawn (v0,v1)).bind fun v2=>
 some (v2.1,(v2.2.1,(v2.2.2.1,v2.2.2.2.1)))
noncomputable def laws_FnCostSum (v0:List Int):Option Bool:=
 (laws_big v0).bind fun v1=>
 bif v1 then (
  some true) else
 (spec_DrawPlaced v0).bind fun v2=>
 Pu.loop (fun (v3:(Int×Int))=>
  let v4:Int:=((v2.2.2.1).length:Int)
  let v5:Bool:=decide (v3.2<v4)
  bif v5 then (
   (gin (v2.2.2.1).length v3.2).bind fun _=>
   (gget (0,((0,0),[])) v2.2.2.1 v3.2).bind fun v7=>
   (impl_ConnSpan (v2.1,(v2.2.2.2,v7))).bind fun v8=>
   let v9:Int:=wrap .i64 (v3.1+v8)
   Pu.loop (fun (v10:Int)=>
    (gin (v2.2.2.1).length v3.2).bind fun _=>
    (gget (0,((0,0),[])) v2.2.2.1 v3.2).bind fun v12=>
    let v13:Int:=((v12.2.2).length:Int)
    let v14:Bool:=decide (v10<v13)
    bif v14 then (
     (gin (v2.2.2.1).length v3.2).bind fun _=>
     (gget (0,((0,0),[])) v2.2.2.1 v3.2).bind fun v16=>
     (gin (v2.2.2.2).length v16.2.1.1).bind fun _=>
     (gget 0 v2.2.2.2 v16.2.1.1).bind fun v18=>
     (gin (v2.2.2.1).length v3.2).bind fun _=>
     (gget (0,((0,0),[])) v2.2.2.1 v3.2).bind fun v20=>
     (gget (0,0) v20.2.2 v10).bind fun v21=>
     (gin (v2.2.2.2).length v21.1).bind fun _=>
     (gget 0 v2.2.2.2 v21.1).bind fun v23=>
     (spec_TileDistance (v2.1,(v18,v23))).bind fun v24=>
     let v25:Bool:=decide (v8<v24)
     bif v25 then (
      Option.map Sum.inr (
       Option.map Sum.inr (
        some false))) else
     let v26:Int:=wrap .i64 (v10+1)
     some (.inl v26)) else
    Option.map Sum.inr (
     let v15:Int:=wrap .i64 (v3.2+1)
     some (.inl (v9,v15)))) 0) else
  Option.map Sum.inr (
   (impl_PlaceCost (v2.1,(v2.2.2.2,v2.2.2.1))).bind fun v6=>
   let v7:Bool:=decide (v6=v3.1)
   bif v7 then (
    (impl_PlaceOk (v2.1,(v2.2.1,v2.2.2.2))).bind fun v8=>
    bif v8 then (
     let v9:Int:=((v2.2.1).length:Int)
     (impl_ConnsOk (v9,v2.2.2.1)).bind fun v10=>
     some v10) else
    some false) else
   some false)) (0,0)
end Go.Pf
