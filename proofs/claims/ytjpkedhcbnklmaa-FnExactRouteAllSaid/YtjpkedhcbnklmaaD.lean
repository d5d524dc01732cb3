/-
  Own work, printed by my tool: the readable functions.
-/
import Derived.Test.YtjpkedhcbnklmaaPu3
namespace Go.Pf
open Go Go.Pu
set_option linter.unusedVariables false
noncomputable def laws_eqIntS (v0 : (List Int × List Int)) : Option Bool :=
 let v1 : Int := ((v0.1).length : Int)
 let v2 : Int := ((v0.2).length : Int)
 let v3 : Bool := decide (v1 ≠ v2)
 bif v3 then (
  some false) else
 Pu.loop (fun (v4 : Int) =>
  let v5 : Int := ((v0.1).length : Int)
  let v6 : Bool := decide (v4 < v5)
  bif v6 then (
   (gget 0 v0.1 v4).bind fun v7 =>
   (gget 0 v0.2 v4).bind fun v8 =>
   let v9 : Bool := decide (v7 ≠ v8)
   bif v9 then (
    Option.map Sum.inr (
     some false)) else
   let v10 : Int := wrap .i64 (v4 + 1)
   some (.inl v10)) else
  Option.map Sum.inr (
   some true)) 0
noncomputable def laws_markIntS (v0 : (List Int × Int)) : Option (Int × List Int) :=
 Pu.loop (fun (v1 : (Int × (Int × List Int))) =>
  let v2 : Int := ((v1.2.2).length : Int)
  let v3 : Bool := decide (v1.2.1 < v2)
  bif v3 then (
   (gin (v1.2.2).length v1.2.1).bind fun _ =>
   (gget 0 v1.2.2 v1.2.1).bind fun v5 =>
   let v6 : Int := v1.1
   let v7 : List Int := gset v1.2.2 v1.2.1 v6
   let v8 : Int := wrap .i64 (v1.1 + 1)
   let v9 : Int := wrap .i64 (v1.2.1 + 1)
   some (.inl (v8, (v9, v7)))) else
  Option.map Sum.inr (
   some (v1.1, v1.2.2))) (v0.2, (0, v0.1))
noncomputable def laws_heldIntS (v0 : (List Int × Int)) : Option Int :=
 Pu.loop (fun (v1 : (Int × Int)) =>
  let v2 : Int := ((v0.1).length : Int)
  let v3 : Bool := decide (v1.2 < v2)
  bif v3 then (
   (gget 0 v0.1 v1.2).bind fun v4 =>
   let v5 : Bool := decide (v4 ≠ v1.1)
   bif v5 then (
    Option.map Sum.inr (
     some (-1))) else
   let v6 : Int := wrap .i64 (v1.1 + 1)
   let v7 : Int := wrap .i64 (v1.2 + 1)
   some (.inl (v6, v7))) else
  Option.map Sum.inr (
   some v1.1)) (v0.2, 0)
noncomputable def laws_toDevice (v0 : (Int × (Int × (Int × Int)))) : Option (Int × (Int × (Int × Int))) :=
 some v0
noncomputable def laws_toIntS (v0 : List Int) : Option (List Int) :=
 let v1 : Int := ((v0).length : Int)
 (gmake 8 (0 : Int) v1).bind fun v2 =>
 Pu.loop (fun (v3 : (Int × List Int)) =>
  let v4 : Int := ((v0).length : Int)
  let v5 : Bool := decide (v3.1 < v4)
  bif v5 then (
   (gget 0 v0 v3.1).bind fun v6 =>
   (gin (v3.2).length v3.1).bind fun _ =>
   (gget 0 v3.2 v3.1).bind fun v8 =>
   let v9 : Int := v6
   let v10 : List Int := gset v3.2 v3.1 v9
   let v11 : Int := wrap .i64 (v3.1 + 1)
   some (.inl (v11, v10))) else
  Option.map Sum.inr (
   some v3.2)) (0, v2)
noncomputable def laws_markPinS (v0 : (List (Int × Int) × Int)) : Option (Int × List (Int × Int)) :=
 Pu.loop (fun (v1 : (Int × (Int × List (Int × Int)))) =>
  let v2 : Int := ((v1.2.2).length : Int)
  let v3 : Bool := decide (v1.2.1 < v2)
  bif v3 then (
   (gin (v1.2.2).length v1.2.1).bind fun _ =>
   (gget (0, 0) v1.2.2 v1.2.1).bind fun v5 =>
   let v6 : (Int × Int) := (v1.1, v5.2)
   let v7 : List (Int × Int) := gset v1.2.2 v1.2.1 v6
   let v8 : Int := wrap .i64 (v1.1 + 1)
   (gin (v7).length v1.2.1).bind fun _ =>
   (gget (0, 0) v7 v1.2.1).bind fun v10 =>
   let v11 : (Int × Int) := (v10.1, v8)
   let v12 : List (Int × Int) := gset v7 v1.2.1 v11
   let v13 : Int := wrap .i64 (v8 + 1)
   let v14 : Int := wrap .i64 (v1.2.1 + 1)
   some (.inl (v13, (v14, v12)))) else
  Option.map Sum.inr (
   some (v1.1, v1.2.2))) (v0.2, (0, v0.1))
noncomputable def impl_inRange (v0 : (Int × (Int × Int))) : Option Bool :=
 let v1 : Bool := decide (v0.2.1 ≤ v0.1)
 bif v1 then (
  let v2 : Bool := decide (v0.1 ≤ v0.2.2)
  some v2) else
 some false
noncomputable def impl_hasInt (v0 : (List Int × Int)) : Option Bool :=
 let v1 : Int := ((v0.1).length : Int)
 Pu.loop (fun (v2 : Int) =>
  let v3 : Bool := decide (v2 < v1)
  bif v3 then (
   (gget 0 v0.1 v2).bind fun v4 =>
   let v5 : Bool := decide (v4 = v0.2)
   bif v5 then (
    Option.map Sum.inr (
     some true)) else
   let v6 : Int := wrap .i64 (v2 + 1)
   some (.inl v6)) else
  Option.map Sum.inr (
   some false)) 0
noncomputable def spec_l01In (v0 : (Int × (Int × Int))) : Option Bool :=
 let v1 : Bool := decide (v0.2.1 ≤ v0.1)
 bif v1 then (
  let v2 : Bool := decide (v0.1 ≤ v0.2.2)
  some v2) else
 some false
noncomputable def spec_l13Has (v0 : (List Int × Int)) : Option Bool :=
 Pu.loop (fun (v1 : Int) =>
  let v2 : Int := ((v0.1).length : Int)
  let v3 : Bool := decide (v1 < v2)
  bif v3 then (
   (gget 0 v0.1 v1).bind fun v4 =>
   let v5 : Bool := decide (v4 = v0.2)
   bif v5 then (
    Option.map Sum.inr (
     some true)) else
   let v6 : Int := wrap .i64 (v1 + 1)
   some (.inl v6)) else
  Option.map Sum.inr (
   some false)) 0
noncomputable def laws_szPinS (v0 : (List (Int × Int) × Int)) : Option Int :=
 let v1 : Int := ((v0.1).length : Int)
 let v2 : Int := wrap .i64 (v0.2 - v1)
 let v3 : Bool := decide (v2 < 0)
 bif v3 then (
  some (-1)) else
 some v2
noncomputable def laws_toPin (v0 : (Int × Int)) : Option (Int × Int) :=
 some v0
noncomputable def laws_eqPin (v0 : ((Int × Int) × (Int × Int))) : Option Bool :=
 let v1 : Bool := decide (v0.1.1 ≠ v0.2.1)
 bif v1 then (
  some false) else
 let v2 : Bool := decide (v0.1.2 ≠ v0.2.2)
 bif v2 then (
  some false) else
 some true
noncomputable def impl_tileKind (v0 : ((Int × (Int × (Int × Int))) × Int)) : Option Int :=
 (grem v0.2 v0.1.1).bind fun v1 =>
 (gdiv .i64 v0.2 v0.1.1).bind fun v2 =>
 let v3 : Bool := decide (v1 = 0)
 bif v3 then (
  some 0) else
 let v4 : Int := wrap .i64 (v0.1.1 - 1)
 let v5 : Bool := decide (v1 = v4)
 bif v5 then (
  some 0) else
 let v6 : Bool := decide (v2 = 0)
 bif v6 then (
  some 0) else
 let v7 : Int := wrap .i64 (v0.1.2.1 - 1)
 let v8 : Bool := decide (v2 = v7)
 bif v8 then (
  some 0) else
 let v9 : Bool := decide (v1 = v0.1.2.2.2)
 bif v9 then (
  some 2) else
 some 1
noncomputable def laws_eqRoute (v0 : ((List Int × List Int) × (List Int × List Int))) : Option Bool :=
 (laws_eqIntS (v0.1.1, v0.2.1)).bind fun v1 =>
 let v2 : Bool := !v1
 bif v2 then (
  some false) else
 (laws_eqIntS (v0.1.2, v0.2.2)).bind fun v3 =>
 let v4 : Bool := !v3
 bif v4 then (
  some false) else
 some true
noncomputable def laws_szConn (v0 : ((Int × ((Int × Int) × List (Int × Int))) × Int)) : Option Int :=
 (laws_szPinS (v0.1.2.2, v0.2)).bind fun v1 =>
 let v2 : Bool := decide (v1 < 0)
 bif v2 then (
  some (-1)) else
 some v1
noncomputable def laws_eqPinS (v0 : (List (Int × Int) × List (Int × Int))) : Option Bool :=
 let v1 : Int := ((v0.1).length : Int)
 let v2 : Int := ((v0.2).length : Int)
 let v3 : Bool := decide (v1 ≠ v2)
 bif v3 then (
  some false) else
 Pu.loop (fun (v4 : Int) =>
  let v5 : Int := ((v0.1).length : Int)
  let v6 : Bool := decide (v4 < v5)
  bif v6 then (
   (gget (0, 0) v0.1 v4).bind fun v7 =>
   (gget (0, 0) v0.2 v4).bind fun v8 =>
   (laws_eqPin (v7, v8)).bind fun v9 =>
   let v10 : Bool := !v9
   bif v10 then (
    Option.map Sum.inr (
     some false)) else
   let v11 : Int := wrap .i64 (v4 + 1)
   some (.inl v11)) else
  Option.map Sum.inr (
   some true)) 0
noncomputable def laws_markConnS (v0 : (List (Int × ((Int × Int) × List (Int × Int))) × Int)) : Option (Int × List (Int × ((Int × Int) × List (Int × Int)))) :=
 Pu.loop (fun (v1 : (Int × (Int × List (Int × ((Int × Int) × List (Int × Int)))))) =>
  let v2 : Int := ((v1.2.2).length : Int)
  let v3 : Bool := decide (v1.2.1 < v2)
  bif v3 then (
   (gin (v1.2.2).length v1.2.1).bind fun _ =>
   (gget (0, ((0, 0), [])) v1.2.2 v1.2.1).bind fun v5 =>
   let v6 : (Int × ((Int × Int) × List (Int × Int))) := (v1.1, v5.2)
   let v7 : List (Int × ((Int × Int) × List (Int × Int))) := gset v1.2.2 v1.2.1 v6
   let v8 : Int := wrap .i64 (v1.1 + 1)
   (gin (v7).length v1.2.1).bind fun _ =>
   (gget (0, ((0, 0), [])) v7 v1.2.1).bind fun v10 =>
   let v11 : (Int × ((Int × Int) × List (Int × Int))) := (v10.1, ((v8, v10.2.1.2), v10.2.2))
   let v12 : List (Int × ((Int × Int) × List (Int × Int))) := gset v7 v1.2.1 v11
   let v13 : Int := wrap .i64 (v8 + 1)
   (gin (v12).length v1.2.1).bind fun _ =>
   (gget (0, ((0, 0), [])) v12 v1.2.1).bind fun v15 =>
   let v16 : (Int × ((Int × Int) × List (Int × Int))) := (v15.1, ((v15.2.1.1, v13), v15.2.2))
   let v17 : List (Int × ((Int × Int) × List (Int × Int))) := gset v12 v1.2.1 v16
   let v18 : Int := wrap .i64 (v13 + 1)
   (gin (v17).length v1.2.1).bind fun _ =>
   (gget (0, ((0, 0), [])) v17 v1.2.1).bind fun v20 =>
   (gget (0, ((0, 0), [])) v17 v1.2.1).bind fun v21 =>
   (laws_markPinS (v21.2.2, v18)).bind fun v22 =>
   (gget (0, ((0, 0), [])) v17 v1.2.1).bind fun v23 =>
   let v24 : (Int × ((Int × Int) × List (Int × Int))) := (v23.1, (v23.2.1, v22.2))
   let v25 : List (Int × ((Int × Int) × List (Int × Int))) := gset v17 v1.2.1 v24
   let v26 : Int := wrap .i64 (v1.2.1 + 1)
   some (.inl (v22.1, (v26, v25)))) else
  Option.map Sum.inr (
   some (v1.1, v1.2.2))) (v0.2, (0, v0.1))
noncomputable def spec_DeviceOk (v0 : (Int × (Int × (Int × Int)))) : Option Bool :=
 (spec_l01In (v0.1, (3, 6))).bind fun v1 =>
 bif v1 then (
  (spec_l01In (v0.2.1, (3, 6))).bind fun v2 =>
  bif v2 then (
   (spec_l01In (v0.2.2.1, (1, 4))).bind fun v3 =>
   bif v3 then (
    let v4 : Bool := decide (v0.2.2.2 = (-1))
    bif v4 then (
     some true) else
    let v5 : Int := wrap .i64 (v0.1 - 2)
    (spec_l01In (v0.2.2.2, (1, v5))).bind fun v6 =>
    some v6) else
   some false) else
  some false) else
 some false
noncomputable def impl_DeviceOk (v0 : (Int × (Int × (Int × Int)))) : Option Bool :=
 (impl_inRange (v0.1, (3, 6))).bind fun v1 =>
 bif v1 then (
  (impl_inRange (v0.2.1, (3, 6))).bind fun v2 =>
  bif v2 then (
   (impl_inRange (v0.2.2.1, (1, 4))).bind fun v3 =>
   bif v3 then (
    let v4 : Bool := decide (v0.2.2.2 = (-1))
    bif v4 then (
     some true) else
    let v5 : Int := wrap .i64 (v0.1 - 2)
    (impl_inRange (v0.2.2.2, (1, v5))).bind fun v6 =>
    some v6) else
   some false) else
  some false) else
 some false
noncomputable def spec_l29Pin (v0 : ((Int × Int) × Int)) : Option Bool :=
 let v1 : Bool := decide (0 ≤ v0.1.1)
 bif v1 then (
  let v2 : Bool := decide (v0.1.1 < v0.2)
  bif v2 then (
   (spec_l01In (v0.1.2, (0, 4))).bind fun v3 =>
   some v3) else
  some false) else
 some false
noncomputable def impl_pinOk (v0 : (Int × (Int × Int))) : Option Bool :=
 let v1 : Int := wrap .i64 (v0.1 - 1)
 (impl_inRange (v0.2.1, (0, v1))).bind fun v2 =>
 bif v2 then (
  (impl_inRange (v0.2.2, (0, 4))).bind fun v3 =>
  some v3) else
 some false
noncomputable def laws_toPinS (v0 : List (Int × Int)) : Option (List (Int × Int)) :=
 let v1 : Int := ((v0).length : Int)
 (gmake 16 ((0, 0) : (Int × Int)) v1).bind fun v2 =>
 Pu.loop (fun (v3 : (Int × List (Int × Int))) =>
  let v4 : Int := ((v0).length : Int)
  let v5 : Bool := decide (v3.1 < v4)
  bif v5 then (
   (gget (0, 0) v0 v3.1).bind fun v6 =>
   (laws_toPin v6).bind fun v7 =>
   (gin (v3.2).length v3.1).bind fun _ =>
   (gget (0, 0) v3.2 v3.1).bind fun v9 =>
   let v10 : (Int × Int) := v7
   let v11 : List (Int × Int) := gset v3.2 v3.1 v10
   let v12 : Int := wrap .i64 (v3.1 + 1)
   some (.inl (v12, v11))) else
  Option.map Sum.inr (
   some v3.2)) (0, v2)
noncomputable def laws_szConnS (v0 : (List (Int × ((Int × Int) × List (Int × Int))) × Int)) : Option Int :=
 let v1 : Int := ((v0.1).length : Int)
 let v2 : Int := wrap .i64 (v0.2 - v1)
 let v3 : Bool := decide (v2 < 0)
 bif v3 then (
  some (-1)) else
 Pu.loop (fun (v4 : (Int × Int)) =>
  let v5 : Int := ((v0.1).length : Int)
  let v6 : Bool := decide (v4.2 < v5)
  bif v6 then (
   (gget (0, ((0, 0), [])) v0.1 v4.2).bind fun v7 =>
   (laws_szConn (v7, v4.1)).bind fun v8 =>
   let v9 : Bool := decide (v8 < 0)
   bif v9 then (
    Option.map Sum.inr (
     some (-1))) else
   let v10 : Int := wrap .i64 (v4.2 + 1)
   some (.inl (v8, v10))) else
  Option.map Sum.inr (
   some v4.1)) (v2, 0)
noncomputable def spec_ConnsOk (v0 : (Int × List (Int × ((Int × Int) × List (Int × Int))))) : Option Bool :=
 (spec_l01In (v0.1, (0, 64))).bind fun v1 =>
 let v2 : Bool := !v1
 bif v2 then (
  some false) else
 let v3 : Int := ((v0.2).length : Int)
 let v4 : Bool := decide (100 < v3)
 bif v4 then (
  some false) else
 Pu.loop (fun (v5 : Int) =>
  let v6 : Int := ((v0.2).length : Int)
  let v7 : Bool := decide (v5 < v6)
  bif v7 then (
   (gget (0, ((0, 0), [])) v0.2 v5).bind fun v8 =>
   let v9 : Int := ((v8.2.2).length : Int)
   (spec_l01In (v9, (1, 120))).bind fun v10 =>
   let v11 : Bool := !v10
   bif v11 then (
    Option.map Sum.inr (
     some false)) else
   (gget (0, ((0, 0), [])) v0.2 v5).bind fun v12 =>
   (spec_l29Pin (v12.2.1, v0.1)).bind fun v13 =>
   let v14 : Bool := !v13
   bif v14 then (
    Option.map Sum.inr (
     some false)) else
   Pu.loop (fun (v15 : Int) =>
    (gget (0, ((0, 0), [])) v0.2 v5).bind fun v16 =>
    let v17 : Int := ((v16.2.2).length : Int)
    let v18 : Bool := decide (v15 < v17)
    bif v18 then (
     (gget (0, ((0, 0), [])) v0.2 v5).bind fun v19 =>
     (gget (0, 0) v19.2.2 v15).bind fun v20 =>
     (spec_l29Pin (v20, v0.1)).bind fun v21 =>
     let v22 : Bool := !v21
     bif v22 then (
      Option.map Sum.inr (
       Option.map Sum.inr (
        some false))) else
     let v23 : Int := wrap .i64 (v15 + 1)
     some (.inl v23)) else
    Option.map Sum.inr (
     let v19 : Int := wrap .i64 (v5 + 1)
     some (.inl v19))) 0) else
  Option.map Sum.inr (
   some true)) 0
noncomputable def impl_ConnsOk (v0 : (Int × List (Int × ((Int × Int) × List (Int × Int))))) : Option Bool :=
 (impl_inRange (v0.1, (0, 64))).bind fun v1 =>
 let v2 : Bool := !v1
 bif v2 then (
  some false) else
 let v3 : Int := ((v0.2).length : Int)
 let v4 : Bool := decide (100 < v3)
 bif v4 then (
  some false) else
 let v5 : Int := ((v0.2).length : Int)
 Pu.loop (fun (v6 : Int) =>
  let v7 : Bool := decide (v6 < v5)
  bif v7 then (
   (gget (0, ((0, 0), [])) v0.2 v6).bind fun v8 =>
   let v9 : Int := ((v8.2.2).length : Int)
   (impl_inRange (v9, (1, 120))).bind fun v10 =>
   let v11 : Bool := !v10
   bif v11 then (
    Option.map Sum.inr (
     some false)) else
   (impl_pinOk (v0.1, v8.2.1)).bind fun v12 =>
   let v13 : Bool := !v12
   bif v13 then (
    Option.map Sum.inr (
     some false)) else
   let v14 : Int := ((v8.2.2).length : Int)
   Pu.loop (fun (v15 : Int) =>
    let v16 : Bool := decide (v15 < v14)
    bif v16 then (
     (gget (0, 0) v8.2.2 v15).bind fun v17 =>
     (impl_pinOk (v0.1, v17)).bind fun v18 =>
     let v19 : Bool := !v18
     bif v19 then (
      Option.map Sum.inr (
       Option.map Sum.inr (
        some false))) else
     let v20 : Int := wrap .i64 (v15 + 1)
     some (.inl v20)) else
    Option.map Sum.inr (
     let v17 : Int := wrap .i64 (v6 + 1)
     some (.inl v17))) 0) else
  Option.map Sum.inr (
   some true)) 0
noncomputable def laws_toConn (v0 : (Int × ((Int × Int) × List (Int × Int)))) : Option (Int × ((Int × Int) × List (Int × Int))) :=
 (laws_toPin v0.2.1).bind fun v1 =>
 (laws_toPinS v0.2.2).bind fun v2 =>
 some (v0.1, (v1, v2))
noncomputable def laws_eqConn (v0 : ((Int × ((Int × Int) × List (Int × Int))) × (Int × ((Int × Int) × List (Int × Int))))) : Option Bool :=
 let v1 : Bool := decide (v0.1.1 ≠ v0.2.1)
 bif v1 then (
  some false) else
 (laws_eqPin (v0.1.2.1, v0.2.2.1)).bind fun v2 =>
 let v3 : Bool := !v2
 bif v3 then (
  some false) else
 (laws_eqPinS (v0.1.2.2, v0.2.2.2)).bind fun v4 =>
 let v5 : Bool := !v4
 bif v5 then (
  some false) else
 some true
noncomputable def spec_TileKind (v0 : ((Int × (Int × (Int × Int))) × Int)) : Option Int :=
 (spec_DeviceOk v0.1).bind fun v1 =>
 let v2 : Bool := !v1
 bif v2 then (
  some (-1)) else
 let v3 : Bool := decide (v0.2 < 0)
 bif v3 then (
  some (-1)) else
 let v4 : Int := wrap .i64 (v0.1.1 * v0.1.2.1)
 let v5 : Bool := decide (v4 ≤ v0.2)
 bif v5 then (
  some (-1)) else
 (grem v0.2 v0.1.1).bind fun v6 =>
 (gdiv .i64 v0.2 v0.1.1).bind fun v7 =>
 let v8 : Bool := decide (v6 = 0)
 bif v8 then (
  some 0) else
 let v9 : Bool := decide (v7 = 0)
 bif v9 then (
  some 0) else
 let v10 : Int := wrap .i64 (v0.1.1 - 1)
 let v11 : Bool := decide (v6 = v10)
 bif v11 then (
  some 0) else
 let v12 : Int := wrap .i64 (v0.1.2.1 - 1)
 let v13 : Bool := decide (v7 = v12)
 bif v13 then (
  some 0) else
 let v14 : Bool := decide (v6 = v0.1.2.2.2)
 bif v14 then (
  some 2) else
 some 1
noncomputable def impl_tileOk (v0 : ((Int × (Int × (Int × Int))) × Int)) : Option Bool :=
 (impl_DeviceOk v0.1).bind fun v1 =>
 bif v1 then (
  let v2 : Int := wrap .i64 (v0.1.1 * v0.1.2.1)
  let v3 : Int := wrap .i64 (v2 - 1)
  (impl_inRange (v0.2, (0, v3))).bind fun v4 =>
  some v4) else
 some false
noncomputable def laws_toConnS (v0 : List (Int × ((Int × Int) × List (Int × Int)))) : Option (List (Int × ((Int × Int) × List (Int × Int)))) :=
 let v1 : Int := ((v0).length : Int)
 (gmake 48 ((0, ((0, 0), [])) : (Int × ((Int × Int) × List (Int × Int)))) v1).bind fun v2 =>
 Pu.loop (fun (v3 : (Int × List (Int × ((Int × Int) × List (Int × Int))))) =>
  let v4 : Int := ((v0).length : Int)
  let v5 : Bool := decide (v3.1 < v4)
  bif v5 then (
   (gget (0, ((0, 0), [])) v0 v3.1).bind fun v6 =>
   (laws_toConn v6).bind fun v7 =>
   (gin (v3.2).length v3.1).bind fun _ =>
   (gget (0, ((0, 0), [])) v3.2 v3.1).bind fun v9 =>
   let v10 : (Int × ((Int × Int) × List (Int × Int))) := v7
   let v11 : List (Int × ((Int × Int) × List (Int × Int))) := gset v3.2 v3.1 v10
   let v12 : Int := wrap .i64 (v3.1 + 1)
   some (.inl (v12, v11))) else
  Option.map Sum.inr (
   some v3.2)) (0, v2)
noncomputable def laws_eqConnS (v0 : (List (Int × ((Int × Int) × List (Int × Int))) × List (Int × ((Int × Int) × List (Int × Int))))) : Option Bool :=
 let v1 : Int := ((v0.1).length : Int)
 let v2 : Int := ((v0.2).length : Int)
 let v3 : Bool := decide (v1 ≠ v2)
 bif v3 then (
  some false) else
 Pu.loop (fun (v4 : Int) =>
  let v5 : Int := ((v0.1).length : Int)
  let v6 : Bool := decide (v4 < v5)
  bif v6 then (
   (gget (0, ((0, 0), [])) v0.1 v4).bind fun v7 =>
   (gget (0, ((0, 0), [])) v0.2 v4).bind fun v8 =>
   (laws_eqConn (v7, v8)).bind fun v9 =>
   let v10 : Bool := !v9
   bif v10 then (
    Option.map Sum.inr (
     some false)) else
   let v11 : Int := wrap .i64 (v4 + 1)
   some (.inl v11)) else
  Option.map Sum.inr (
   some true)) 0
noncomputable def spec_l27Per (v0 : (Int × (Int × (Int × Int)))) : Option Int :=
 let v1 : Int := wrap .i64 (4 * v0.2.2.1)
 let v2 : Int := wrap .i64 (7 + v1)
 some v2
noncomputable def spec_InPins (v0 : Int) : Option Int :=
 let v1 : Bool := decide (v0 = 0)
 bif v1 then (
  some 1) else
 let v2 : Bool := decide (v0 = 1)
 bif v2 then (
  some 5) else
 let v3 : Bool := decide (v0 = 2)
 bif v3 then (
  some 4) else
 some 0
noncomputable def spec_OutPins (v0 : Int) : Option Int :=
 let v1 : Bool := decide (v0 = 0)
 bif v1 then (
  bif v1 then (
   some 1) else
  let v2 : Bool := decide (v0 = 1)
  bif v2 then (
   some 2) else
  some 0) else
 let v2 : Bool := decide (v0 = 2)
 bif v2 then (
  some 1) else
 let v3 : Bool := decide (v0 = 1)
 bif v3 then (
  some 2) else
 some 0
noncomputable def impl_InPins (v0 : Int) : Option Int :=
 let v1 : Bool := decide (v0 = 0)
 bif v1 then (
  some 1) else
 let v2 : Bool := decide (v0 = 1)
 bif v2 then (
  some 5) else
 let v3 : Bool := decide (v0 = 2)
 bif v3 then (
  some 4) else
 some 0
noncomputable def impl_OutPins (v0 : Int) : Option Int :=
 let v1 : Bool := decide (v0 = 0)
 bif v1 then (
  bif v1 then (
   some 1) else
  let v2 : Bool := decide (v0 = 1)
  bif v2 then (
   some 2) else
  some 0) else
 let v2 : Bool := decide (v0 = 2)
 bif v2 then (
  some 1) else
 let v3 : Bool := decide (v0 = 1)
 bif v3 then (
  some 2) else
 some 0
noncomputable def impl_wireLength (v0 : Int) : Option Int :=
 (grem v0 2).bind fun v1 =>
 let v2 : Int := wrap .i64 (1 + v1)
 some v2
noncomputable def spec_l34Load (v0 : (Int × (List (List Int × List Int) × Int))) : Option (List Int) :=
 (gmake 8 (0 : Int) v0.1).bind fun v1 =>
 Pu.loop (fun (v2 : (Int × List Int)) =>
  let v3 : Int := ((v0.2.1).length : Int)
  let v4 : Bool := decide (v2.1 < v3)
  bif v4 then (
   let v5 : Bool := decide (v2.1 = v0.2.2)
   bif v5 then (
    let v6 : Int := wrap .i64 (v2.1 + 1)
    some (.inl (v6, v2.2))) else
   (gmake 1 (false : Bool) v0.1).bind fun v6 =>
   Pu.loop (fun (v7 : (Int × (List Int × List Bool))) =>
    (gget ([], []) v0.2.1 v2.1).bind fun v8 =>
    let v9 : Int := ((v8.1).length : Int)
    let v10 : Bool := decide (v7.1 < v9)
    bif v10 then (
     (gget ([], []) v0.2.1 v2.1).bind fun v11 =>
     (gget 0 v11.1 v7.1).bind fun v12 =>
     let v13 : Bool := decide (0 ≤ v12)
     bif v13 then (
      let v14 : Bool := decide (v12 < v0.1)
      bif v14 then (
       (gin (v7.2.2).length v12).bind fun _ =>
       (gget false v7.2.2 v12).bind fun v16 =>
       let v17 : Bool := !v16
       bif v17 then (
        (gin (v7.2.2).length v12).bind fun _ =>
        (gget false v7.2.2 v12).bind fun v19 =>
        let v20 : Bool := true
        let v21 : List Bool := gset v7.2.2 v12 v20
        (gin (v7.2.1).length v12).bind fun _ =>
        (gget 0 v7.2.1 v12).bind fun v23 =>
        let v24 : Int := wrap .i64 (v23 + 1)
        (gin (v7.2.1).length v12).bind fun _ =>
        (gget 0 v7.2.1 v12).bind fun v26 =>
        let v27 : Int := v24
        let v28 : List Int := gset v7.2.1 v12 v27
        let v29 : Int := wrap .i64 (v7.1 + 1)
        some (.inl (v29, (v28, v21)))) else
       let v18 : Int := wrap .i64 (v7.1 + 1)
       some (.inl (v18, v7.2))) else
      let v15 : Int := wrap .i64 (v7.1 + 1)
      some (.inl (v15, v7.2))) else
     let v14 : Int := wrap .i64 (v7.1 + 1)
     some (.inl (v14, v7.2))) else
    Option.map Sum.inr (
     let v11 : Int := wrap .i64 (v2.1 + 1)
     some (.inl (v11, v7.2.1)))) (0, (v2.2, v6))) else
  Option.map Sum.inr (
   some v2.2)) (0, v1)
noncomputable def spec_l34Costs (v0 : (List Int × (List Int × Int))) : Option (List Int) :=
 Pu.loop (fun (v1 : (Int × List Int)) =>
  let v2 : Int := ((v0.2.1).length : Int)
  let v3 : Bool := decide (v1.1 < v2)
  bif v3 then (
   (gget 0 v0.1 v1.1).bind fun v4 =>
   let v5 : Int := wrap .i64 (10 + v4)
   (gget 0 v0.2.1 v1.1).bind fun v6 =>
   let v7 : Int := wrap .i64 (v0.2.2 * v6)
   let v8 : Int := wrap .i64 (v5 + v7)
   let v9 : Int := if v8 < 100000 then v8 else 100000
   let v10 : List Int := [v9]
   (gapp 8 v1.2 v10).bind fun v11 =>
   let v12 : Int := wrap .i64 (v1.1 + 1)
   some (.inl (v12, v11))) else
  Option.map Sum.inr (
   some v1.2)) (0, ([] : List Int))
noncomputable def impl_sharedCosts (v0 : (List Int × (List Int × Int))) : Option (List Int) :=
 let v1 : Int := ((v0.1).length : Int)
 Pu.loop (fun (v2 : (List Int × Int)) =>
  let v3 : Bool := decide (v2.2 < v1)
  bif v3 then (
   (gget 0 v0.1 v2.2).bind fun v4 =>
   let v5 : Int := wrap .i64 (10 + v4)
   (gget 0 v0.2.1 v2.2).bind fun v6 =>
   let v7 : Int := wrap .i64 (v0.2.2 * v6)
   let v8 : Int := wrap .i64 (v5 + v7)
   let v9 : Int := if v8 < 100000 then v8 else 100000
   let v10 : List Int := [v9]
   (gapp 8 v2.1 v10).bind fun v11 =>
   let v12 : Int := wrap .i64 (v2.2 + 1)
   some (.inl (v11, v12))) else
  Option.map Sum.inr (
   some v2.1)) (([] : List Int), 0)
noncomputable def spec_l27Sort (v0 : List Int) : Option (List Int) :=
 (gapp 8 ([] : List Int) v0).bind fun v1 =>
 Pu.loop (fun (v2 : (Int × List Int)) =>
  let v3 : Int := ((v2.2).length : Int)
  let v4 : Bool := decide (v2.1 < v3)
  bif v4 then (
   joinO (
    Pu.loop (fun (v5 : (Int × List Int)) =>
     let v6 : Bool := decide (0 < v5.1)
     bif v6 then (
      (gin (v5.2).length v5.1).bind fun _ =>
      (gget 0 v5.2 v5.1).bind fun v8 =>
      let v9 : Int := wrap .i64 (v5.1 - 1)
      (gin (v5.2).length v9).bind fun _ =>
      (gget 0 v5.2 v9).bind fun v11 =>
      let v12 : Bool := decide (v8 < v11)
      bif v12 then (
       (gin (v5.2).length v5.1).bind fun _ =>
       (gget 0 v5.2 v5.1).bind fun v14 =>
       let v15 : Int := wrap .i64 (v5.1 - 1)
       (gin (v5.2).length v15).bind fun _ =>
       (gget 0 v5.2 v15).bind fun v17 =>
       (gin (v5.2).length v5.1).bind fun _ =>
       (gget 0 v5.2 v5.1).bind fun v19 =>
       let v20 : Int := v17
       let v21 : List Int := gset v5.2 v5.1 v20
       let v22 : Int := wrap .i64 (v5.1 - 1)
       (gin (v21).length v22).bind fun _ =>
       (gget 0 v21 v22).bind fun v24 =>
       let v25 : Int := v14
       let v26 : List Int := gset v21 v22 v25
       let v27 : Int := wrap .i64 (v5.1 - 1)
       some (.inl (v27, v26))) else
      Option.map Sum.inr (
       some (.inl v5.2))) else
     Option.map Sum.inr (
      some (.inl v5.2))) v2) (fun (v5 : List Int) =>
    let v6 : Int := wrap .i64 (v2.1 + 1)
    some (.inl (v6, v5)))) else
  Option.map Sum.inr (
   some v2.2)) (1, v1)
noncomputable def spec_l33Distances (v0 : (List (List Int) × (List Int × List Int))) : Option (List Int) :=
 Pu.loop (fun (v1 : (Int × List Int)) =>
  let v2 : Int := ((v0.1).length : Int)
  let v3 : Bool := decide (v1.1 < v2)
  bif v3 then (
   let v4 : List Int := [(-1)]
   (gapp 8 v1.2 v4).bind fun v5 =>
   let v6 : Int := wrap .i64 (v1.1 + 1)
   some (.inl (v6, v5))) else
  Option.map Sum.inr (
   Pu.loop (fun (v4 : (Int × List Int)) =>
    let v5 : Int := ((v0.2.2).length : Int)
    let v6 : Bool := decide (v4.1 < v5)
    bif v6 then (
     (gget 0 v0.2.2 v4.1).bind fun v7 =>
     (gin (v4.2).length v7).bind fun _ =>
     (gget 0 v4.2 v7).bind fun v9 =>
     let v10 : Int := 0
     let v11 : List Int := gset v4.2 v7 v10
     let v12 : Int := wrap .i64 (v4.1 + 1)
     some (.inl (v12, v11))) else
    Option.map Sum.inr (
     Pu.loop (fun (v7 : (Bool × List Int)) =>
      bif v7.1 then (
       Pu.loop (fun (v8 : (Bool × (Int × List Int))) =>
        let v9 : Int := ((v0.1).length : Int)
        let v10 : Bool := decide (v8.2.1 < v9)
        bif v10 then (
         Pu.loop (fun (v11 : (Bool × (Int × List Int))) =>
          (gget [] v0.1 v8.2.1).bind fun v12 =>
          let v13 : Int := ((v12).length : Int)
          let v14 : Bool := decide (v11.2.1 < v13)
          bif v14 then (
           (gget [] v0.1 v8.2.1).bind fun v15 =>
           (gget 0 v15 v11.2.1).bind fun v16 =>
           (gin (v11.2.2).length v16).bind fun _ =>
           (gget 0 v11.2.2 v16).bind fun v18 =>
           let v19 : Bool := decide (0 ≤ v18)
           bif v19 then (
            (gin (v11.2.2).length v8.2.1).bind fun _ =>
            (gget 0 v11.2.2 v8.2.1).bind fun v21 =>
            let v22 : Bool := decide (v21 < 0)
            bif v22 then (
             (gget 0 v0.2.1 v8.2.1).bind fun v23 =>
             let v24 : Int := wrap .i64 (v18 + v23)
             (gin (v11.2.2).length v8.2.1).bind fun _ =>
             (gget 0 v11.2.2 v8.2.1).bind fun v26 =>
             let v27 : Int := v24
             let v28 : List Int := gset v11.2.2 v8.2.1 v27
             let v29 : Int := wrap .i64 (v11.2.1 + 1)
             some (.inl (true, (v29, v28)))) else
            (gget 0 v0.2.1 v8.2.1).bind fun v23 =>
            let v24 : Int := wrap .i64 (v18 + v23)
            (gin (v11.2.2).length v8.2.1).bind fun _ =>
            (gget 0 v11.2.2 v8.2.1).bind fun v26 =>
            let v27 : Bool := decide (v24 < v26)
            bif v27 then (
             (gget 0 v0.2.1 v8.2.1).bind fun v28 =>
             let v29 : Int := wrap .i64 (v18 + v28)
             (gin (v11.2.2).length v8.2.1).bind fun _ =>
             (gget 0 v11.2.2 v8.2.1).bind fun v31 =>
             let v32 : Int := v29
             let v33 : List Int := gset v11.2.2 v8.2.1 v32
             let v34 : Int := wrap .i64 (v11.2.1 + 1)
             some (.inl (true, (v34, v33)))) else
            let v28 : Int := wrap .i64 (v11.2.1 + 1)
            some (.inl (v11.1, (v28, v11.2.2)))) else
           let v20 : Int := wrap .i64 (v11.2.1 + 1)
           some (.inl (v11.1, (v20, v11.2.2)))) else
          Option.map Sum.inr (
           let v15 : Int := wrap .i64 (v8.2.1 + 1)
           some (.inl (v11.1, (v15, v11.2.2))))) (v8.1, (0, v8.2.2))) else
        Option.map Sum.inr (
         some (.inl (v8.1, v8.2.2)))) (false, (0, v7.2))) else
      Option.map Sum.inr (
       some v7.2)) (true, v4.2))) (0, v1.2))) (0, ([] : List Int))
noncomputable def spec_l33Path (v0 : (List (List Int) × (List Int × (List Int × Int)))) : Option (List Int) :=
 let v1 : List Int := [v0.2.2.2]
 Pu.loop (fun (v2 : (Int × List Int)) =>
  (gget 0 v0.2.2.1 v2.1).bind fun v3 =>
  let v4 : Bool := decide (0 < v3)
  bif v4 then (
   joinO (
    Pu.loop (fun (v5 : (Int × Int)) =>
     (gget [] v0.1 v2.1).bind fun v6 =>
     let v7 : Int := ((v6).length : Int)
     let v8 : Bool := decide (v5.2 < v7)
     bif v8 then (
      let v9 : Bool := decide (v5.1 < 0)
      bif v9 then (
       (gget [] v0.1 v2.1).bind fun v10 =>
       (gget 0 v10 v5.2).bind fun v11 =>
       (gget 0 v0.2.2.1 v11).bind fun v12 =>
       let v13 : Bool := decide (0 ≤ v12)
       bif v13 then (
        (gget 0 v0.2.2.1 v11).bind fun v14 =>
        (gget 0 v0.2.1 v2.1).bind fun v15 =>
        let v16 : Int := wrap .i64 (v14 + v15)
        (gget 0 v0.2.2.1 v2.1).bind fun v17 =>
        let v18 : Bool := decide (v16 = v17)
        bif v18 then (
         let v19 : Int := wrap .i64 (v5.2 + 1)
         some (.inl (v11, v19))) else
        let v19 : Int := wrap .i64 (v5.2 + 1)
        some (.inl (v5.1, v19))) else
       let v14 : Int := wrap .i64 (v5.2 + 1)
       some (.inl (v5.1, v14))) else
      Option.map Sum.inr (
       some (.inl v5.1))) else
     Option.map Sum.inr (
      some (.inl v5.1))) ((-1), 0)) (fun (v5 : Int) =>
    let v6 : List Int := [v5]
    (gapp 8 v2.2 v6).bind fun v7 =>
    some (.inl (v5, v7)))) else
  Option.map Sum.inr (
   let v5 : Int := ((v2.2).length : Int)
   let v6 : Int := wrap .i64 (v5 - 1)
   Pu.loop (fun (v7 : (Int × List Int)) =>
    let v8 : Bool := decide (0 ≤ v7.1)
    bif v8 then (
     (gin (v2.2).length v7.1).bind fun _ =>
     (gget 0 v2.2 v7.1).bind fun v10 =>
     let v11 : List Int := [v10]
     (gapp 8 v7.2 v11).bind fun v12 =>
     let v13 : Int := wrap .i64 (v7.1 - 1)
     some (.inl (v13, v12))) else
    Option.map Sum.inr (
     some v7.2)) (v6, ([] : List Int)))) (v0.2.2.2, v1)
noncomputable def impl_perTile (v0 : (Int × (Int × (Int × Int)))) : Option Int :=
 let v1 : Int := wrap .i64 (4 * v0.2.2.1)
 let v2 : Int := wrap .i64 (7 + v1)
 some v2
noncomputable def impl_insertInt (v0 : (List Int × Int)) : Option (List Int) :=
 joinO (
  Pu.loop (fun (v1 : Int) =>
   let v2 : Int := ((v0.1).length : Int)
   let v3 : Bool := decide (v1 < v2)
   bif v3 then (
    (gin (v0.1).length v1).bind fun _ =>
    (gget 0 v0.1 v1).bind fun v5 =>
    let v6 : Bool := decide (v5 < v0.2)
    bif v6 then (
     let v7 : Int := wrap .i64 (v1 + 1)
     some (.inl v7)) else
    Option.map Sum.inr (
     some (.inl v1))) else
   Option.map Sum.inr (
    some (.inl v1))) 0) (fun (v1 : Int) =>
  let v2 : Int := ((v0.1).length : Int)
  let v3 : Bool := decide (v1 < v2)
  bif v3 then (
   (gin (v0.1).length v1).bind fun _ =>
   (gget 0 v0.1 v1).bind fun v5 =>
   let v6 : Bool := decide (v5 = v0.2)
   bif v6 then (
    some v0.1) else
   (gslice v0.1 0 v1).bind fun v7 =>
   (gapp 8 ([] : List Int) v7).bind fun v8 =>
   let v9 : List Int := [v0.2]
   (gapp 8 v8 v9).bind fun v10 =>
   (gslice v0.1 v1 ((v0.1).length : Int)).bind fun v11 =>
   (gapp 8 v10 v11).bind fun v12 =>
   some v12) else
  (gslice v0.1 0 v1).bind fun v4 =>
  (gapp 8 ([] : List Int) v4).bind fun v5 =>
  let v6 : List Int := [v0.2]
  (gapp 8 v5 v6).bind fun v7 =>
  (gslice v0.1 v1 ((v0.1).length : Int)).bind fun v8 =>
  (gapp 8 v7 v8).bind fun v9 =>
  some v9)
noncomputable def impl_pushQueue (v0 : (List (Int × Int) × (Int × Int))) : Option (List (Int × Int)) :=
 let v1 : List (Int × Int) := [v0.2]
 (gapp 16 v0.1 v1).bind fun v2 =>
 let v3 : Int := ((v2).length : Int)
 let v4 : Int := wrap .i64 (v3 - 1)
 joinO (
  Pu.loop (fun (v5 : (Int × List (Int × Int))) =>
   let v6 : Bool := decide (0 < v5.1)
   bif v6 then (
    let v7 : Int := wrap .i64 (v5.1 - 1)
    (gdiv .i64 v7 2).bind fun v8 =>
    (gin (v5.2).length v8).bind fun _ =>
    (gget (0, 0) v5.2 v8).bind fun v10 =>
    (gin (v5.2).length v5.1).bind fun _ =>
    (gget (0, 0) v5.2 v5.1).bind fun v12 =>
    let v13 : Bool := decide (v10.1 ≤ v12.1)
    bif v13 then (
     Option.map Sum.inr (
      some (.inl v5.2))) else
    (gin (v5.2).length v5.1).bind fun _ =>
    (gget (0, 0) v5.2 v5.1).bind fun v15 =>
    (gin (v5.2).length v8).bind fun _ =>
    (gget (0, 0) v5.2 v8).bind fun v17 =>
    (gin (v5.2).length v8).bind fun _ =>
    (gget (0, 0) v5.2 v8).bind fun v19 =>
    let v20 : (Int × Int) := v15
    let v21 : List (Int × Int) := gset v5.2 v8 v20
    (gin (v21).length v5.1).bind fun _ =>
    (gget (0, 0) v21 v5.1).bind fun v23 =>
    let v24 : (Int × Int) := v17
    let v25 : List (Int × Int) := gset v21 v5.1 v24
    some (.inl (v8, v25))) else
   Option.map Sum.inr (
    some (.inl v5.2))) (v4, v2)) (fun (v5 : List (Int × Int)) =>
  some v5)
noncomputable def impl_popQueue (v0 : List (Int × Int)) : Option (List (Int × Int) × (Int × Int)) :=
 (gin (v0).length 0).bind fun _ =>
 (gget (0, 0) v0 0).bind fun v2 =>
 let v3 : Int := ((v0).length : Int)
 let v4 : Int := wrap .i64 (v3 - 1)
 (gin (v0).length v4).bind fun _ =>
 (gget (0, 0) v0 v4).bind fun v6 =>
 (gin (v0).length 0).bind fun _ =>
 (gget (0, 0) v0 0).bind fun v8 =>
 let v9 : (Int × Int) := v6
 let v10 : List (Int × Int) := gset v0 0 v9
 (gslice v10 0 v4).bind fun v11 =>
 joinO (
  Pu.loop (fun (v12 : (Int × List (Int × Int))) =>
   let v13 : Int := wrap .i64 (2 * v12.1)
   let v14 : Int := wrap .i64 (v13 + 1)
   let v15 : Bool := decide (v4 ≤ v14)
   bif v15 then (
    Option.map Sum.inr (
     some (.inl v12.2))) else
   joinO (
    let v16 : Int := wrap .i64 (v14 + 1)
    let v17 : Bool := decide (v16 < v4)
    bif v17 then (
     let v18 : Int := wrap .i64 (v14 + 1)
     (gin (v12.2).length v18).bind fun _ =>
     (gget (0, 0) v12.2 v18).bind fun v20 =>
     (gin (v12.2).length v14).bind fun _ =>
     (gget (0, 0) v12.2 v14).bind fun v22 =>
     let v23 : Bool := decide (v20.1 < v22.1)
     bif v23 then (
      let v24 : Int := wrap .i64 (v14 + 1)
      some (.inl v24)) else
     some (.inl v14)) else
    some (.inl v14)) (fun (v16 : Int) =>
    (gin (v12.2).length v12.1).bind fun _ =>
    (gget (0, 0) v12.2 v12.1).bind fun v18 =>
    (gin (v12.2).length v16).bind fun _ =>
    (gget (0, 0) v12.2 v16).bind fun v20 =>
    let v21 : Bool := decide (v18.1 ≤ v20.1)
    bif v21 then (
     Option.map Sum.inr (
      some (.inl v12.2))) else
    (gin (v12.2).length v16).bind fun _ =>
    (gget (0, 0) v12.2 v16).bind fun v23 =>
    (gin (v12.2).length v12.1).bind fun _ =>
    (gget (0, 0) v12.2 v12.1).bind fun v25 =>
    (gin (v12.2).length v12.1).bind fun _ =>
    (gget (0, 0) v12.2 v12.1).bind fun v27 =>
    let v28 : (Int × Int) := v23
    let v29 : List (Int × Int) := gset v12.2 v12.1 v28
    (gin (v29).length v16).bind fun _ =>
    (gget (0, 0) v29 v16).bind fun v31 =>
    let v32 : (Int × Int) := v25
    let v33 : List (Int × Int) := gset v29 v16 v32
    some (.inl (v16, v33)))) (0, v11)) (fun (v12 : List (Int × Int)) =>
  some (v12, v2))
noncomputable def laws_markRouteS (v0 : (List (List Int × List Int) × Int)) : Option (Int × List (List Int × List Int)) :=
 Pu.loop (fun (v1 : (Int × (Int × List (List Int × List Int)))) =>
  let v2 : Int := ((v1.2.2).length : Int)
  let v3 : Bool := decide (v1.2.1 < v2)
  bif v3 then (
   (gin (v1.2.2).length v1.2.1).bind fun _ =>
   (gget ([], []) v1.2.2 v1.2.1).bind fun v5 =>
   (gget ([], []) v1.2.2 v1.2.1).bind fun v6 =>
   (laws_markIntS (v6.1, v1.1)).bind fun v7 =>
   (gget ([], []) v1.2.2 v1.2.1).bind fun v8 =>
   let v9 : (List Int × List Int) := (v7.2, v8.2)
   let v10 : List (List Int × List Int) := gset v1.2.2 v1.2.1 v9
   (gin (v10).length v1.2.1).bind fun _ =>
   (gget ([], []) v10 v1.2.1).bind fun v12 =>
   (gget ([], []) v10 v1.2.1).bind fun v13 =>
   (laws_markIntS (v13.2, v7.1)).bind fun v14 =>
   (gget ([], []) v10 v1.2.1).bind fun v15 =>
   let v16 : (List Int × List Int) := (v15.1, v14.2)
   let v17 : List (List Int × List Int) := gset v10 v1.2.1 v16
   let v18 : Int := wrap .i64 (v1.2.1 + 1)
   some (.inl (v14.1, (v18, v17)))) else
  Option.map Sum.inr (
   some (v1.1, v1.2.2))) (v0.2, (0, v0.1))
noncomputable def spec_l27Wire (v0 : ((Int × (Int × (Int × Int))) × Int)) : Option (Int × Int) :=
 (spec_l27Per v0.1).bind fun v1 =>
 (grem v0.2 v1).bind fun v2 =>
 let v3 : Int := wrap .i64 (v2 - 7)
 (gdiv .i64 v3 v0.1.2.2.1).bind fun v4 =>
 (grem v3 v0.1.2.2.1).bind fun v5 =>
 some (v4, v5)
noncomputable def impl_routeNodes (v0 : (Int × (Int × (Int × Int)))) : Option Int :=
 let v1 : Int := wrap .i64 (v0.1 * v0.2.1)
 (impl_perTile v0).bind fun v2 =>
 let v3 : Int := wrap .i64 (v1 * v2)
 some v3
noncomputable def impl_nodePlace (v0 : ((Int × (Int × (Int × Int))) × Int)) : Option (Int × Int) :=
 (impl_perTile v0.1).bind fun v1 =>
 (gdiv .i64 v0.2 v1).bind fun v2 =>
 (impl_perTile v0.1).bind fun v3 =>
 (grem v0.2 v3).bind fun v4 =>
 some (v2, v4)
noncomputable def impl_tileStep (v0 : ((Int × (Int × (Int × Int))) × (Int × (Int × Int)))) : Option Int :=
 (grem v0.2.1 v0.1.1).bind fun v1 =>
 (gdiv .i64 v0.2.1 v0.1.1).bind fun v2 =>
 joinO (
  let v3 : Bool := decide (v0.2.2.1 = 0)
  bif v3 then (
   let v4 : Int := wrap .i64 (v1 + v0.2.2.2)
   some (.inl (v4, v2))) else
  let v4 : Bool := decide (v0.2.2.1 = 1)
  bif v4 then (
   let v5 : Int := wrap .i64 (v2 + v0.2.2.2)
   some (.inl (v1, v5))) else
  let v5 : Bool := decide (v0.2.2.1 = 2)
  bif v5 then (
   let v6 : Int := wrap .i64 (v1 - v0.2.2.2)
   some (.inl (v6, v2))) else
  let v6 : Int := wrap .i64 (v2 - v0.2.2.2)
  some (.inl (v1, v6))) (fun (v3 : (Int × Int)) =>
  let v4 : Int := wrap .i64 (v0.1.1 - 1)
  (impl_inRange (v3.1, (0, v4))).bind fun v5 =>
  let v6 : Bool := !v5
  bif v6 then (
   some (-1)) else
  let v7 : Int := wrap .i64 (v0.1.2.1 - 1)
  (impl_inRange (v3.2, (0, v7))).bind fun v8 =>
  let v9 : Bool := !v8
  bif v9 then (
   some (-1)) else
  let v10 : Int := wrap .i64 (v3.2 * v0.1.1)
  let v11 : Int := wrap .i64 (v10 + v3.1)
  some v11)
noncomputable def impl_usage (v0 : (Int × List (List Int × List Int))) : Option (List Int) :=
 (gmake 8 (0 : Int) v0.1).bind fun v1 =>
 let v2 : Int := ((v0.2).length : Int)
 Pu.loop (fun (v3 : (Int × List Int)) =>
  let v4 : Bool := decide (v3.1 < v2)
  bif v4 then (
   (gget ([], []) v0.2 v3.1).bind fun v5 =>
   let v6 : Int := ((v5.1).length : Int)
   Pu.loop (fun (v7 : (Int × (List Int × List (Int × Bool)))) =>
    let v8 : Bool := decide (v7.1 < v6)
    bif v8 then (
     (gget 0 v5.1 v7.1).bind fun v9 =>
     let v10 : Int := wrap .i64 (v0.1 - 1)
     (impl_inRange (v9, (0, v10))).bind fun v11 =>
     bif v11 then (
      let v12 : Bool := mget v7.2.2 v9
      let v13 : Bool := !v12
      bif v13 then (
       let v14 : List (Int × Bool) := mset v7.2.2 v9 true
       (gin (v7.2.1).length v9).bind fun _ =>
       (gget 0 v7.2.1 v9).bind fun v16 =>
       let v17 : Int := wrap .i64 (v16 + 1)
       (gin (v7.2.1).length v9).bind fun _ =>
       (gget 0 v7.2.1 v9).bind fun v19 =>
       let v20 : Int := v17
       let v21 : List Int := gset v7.2.1 v9 v20
       let v22 : Int := wrap .i64 (v7.1 + 1)
       some (.inl (v22, (v21, v14)))) else
      let v14 : Int := wrap .i64 (v7.1 + 1)
      some (.inl (v14, v7.2))) else
     let v12 : Int := wrap .i64 (v7.1 + 1)
     some (.inl (v12, v7.2))) else
    Option.map Sum.inr (
     let v9 : Int := wrap .i64 (v3.1 + 1)
     some (.inl (v9, v7.2.1)))) (0, (v3.2, ([] : List (Int × Bool))))) else
  Option.map Sum.inr (
   some v3.2)) (0, v1)
noncomputable def impl_distances (v0 : ((List (List Int) × List (List Int)) × (List Int × List Int))) : Option (List Int) :=
 let v1 : Int := ((v0.2.1).length : Int)
 (gmake 8 (0 : Int) v1).bind fun v2 =>
 let v3 : Int := ((v2).length : Int)
 Pu.loop (fun (v4 : (Int × List Int)) =>
  let v5 : Bool := decide (v4.1 < v3)
  bif v5 then (
   (gin (v4.2).length v4.1).bind fun _ =>
   (gget 0 v4.2 v4.1).bind fun v7 =>
   let v8 : Int := (-1)
   let v9 : List Int := gset v4.2 v4.1 v8
   let v10 : Int := wrap .i64 (v4.1 + 1)
   some (.inl (v10, v9))) else
  Option.map Sum.inr (
   let v6 : Int := ((v0.2.2).length : Int)
   Pu.loop (fun (v7 : (List (Int × Int) × (Int × List Int))) =>
    let v8 : Bool := decide (v7.2.1 < v6)
    bif v8 then (
     (gget 0 v0.2.2 v7.2.1).bind fun v9 =>
     (gin (v7.2.2).length v9).bind fun _ =>
     (gget 0 v7.2.2 v9).bind fun v11 =>
     let v12 : Bool := decide (v11 ≠ 0)
     bif v12 then (
      (gin (v7.2.2).length v9).bind fun _ =>
      (gget 0 v7.2.2 v9).bind fun v14 =>
      let v15 : Int := 0
      let v16 : List Int := gset v7.2.2 v9 v15
      (impl_pushQueue (v7.1, (0, v9))).bind fun v17 =>
      let v18 : Int := wrap .i64 (v7.2.1 + 1)
      some (.inl (v17, (v18, v16)))) else
     let v13 : Int := wrap .i64 (v7.2.1 + 1)
     some (.inl (v7.1, (v13, v7.2.2)))) else
    Option.map Sum.inr (
     Pu.loop (fun (v9 : (List (Int × Int) × List Int)) =>
      let v10 : Int := ((v9.1).length : Int)
      let v11 : Bool := decide (0 < v10)
      bif v11 then (
       (impl_popQueue v9.1).bind fun v12 =>
       (gin (v9.2).length v12.2.2).bind fun _ =>
       (gget 0 v9.2 v12.2.2).bind fun v14 =>
       let v15 : Bool := decide (v14 < v12.2.1)
       bif v15 then (
        some (.inl (v12.1, v9.2))) else
       (gget [] v0.1.2 v12.2.2).bind fun v16 =>
       let v17 : Int := ((v16).length : Int)
       Pu.loop (fun (v18 : (Int × (List Int × List (Int × Int)))) =>
        let v19 : Bool := decide (v18.1 < v17)
        bif v19 then (
         (gget 0 v16 v18.1).bind fun v20 =>
         (gget 0 v0.2.1 v20).bind fun v21 =>
         let v22 : Int := wrap .i64 (v12.2.1 + v21)
         (gin (v18.2.1).length v20).bind fun _ =>
         (gget 0 v18.2.1 v20).bind fun v24 =>
         let v25 : Bool := decide (v24 = (-1))
         bif v25 then (
          (gin (v18.2.1).length v20).bind fun _ =>
          (gget 0 v18.2.1 v20).bind fun v27 =>
          let v28 : Int := v22
          let v29 : List Int := gset v18.2.1 v20 v28
          (impl_pushQueue (v18.2.2, (v22, v20))).bind fun v30 =>
          let v31 : Int := wrap .i64 (v18.1 + 1)
          some (.inl (v31, (v29, v30)))) else
         (gin (v18.2.1).length v20).bind fun _ =>
         (gget 0 v18.2.1 v20).bind fun v27 =>
         let v28 : Bool := decide (v22 < v27)
         bif v28 then (
          (gin (v18.2.1).length v20).bind fun _ =>
          (gget 0 v18.2.1 v20).bind fun v30 =>
          let v31 : Int := v22
          let v32 : List Int := gset v18.2.1 v20 v31
          (impl_pushQueue (v18.2.2, (v22, v20))).bind fun v33 =>
          let v34 : Int := wrap .i64 (v18.1 + 1)
          some (.inl (v34, (v32, v33)))) else
         let v29 : Int := wrap .i64 (v18.1 + 1)
         some (.inl (v29, v18.2))) else
        Option.map Sum.inr (
         some (.inl (v18.2.2, v18.2.1)))) (0, (v9.2, v12.1))) else
      Option.map Sum.inr (
       some v9.2)) (v7.1, v7.2.2))) (([] : List (Int × Int)), (0, v4.2)))) (0, v2)
noncomputable def spec_l33Grow (v0 : (List (List Int) × (List Int × (Int × List Int)))) : Option ((List Int × List Int) × Bool) :=
 let v1 : List Int := [v0.2.2.1]
 let v2 : List Int := [0]
 Pu.loop (fun (v3 : (Int × (List Int × List Int))) =>
  let v4 : Int := ((v0.2.2.2).length : Int)
  let v5 : Bool := decide (v3.1 < v4)
  bif v5 then (
   (gget 0 v0.2.2.2 v3.1).bind fun v6 =>
   let v7 : Bool := decide (v6 < 0)
   bif v7 then (
    Option.map Sum.inr (
     some ((([] : List Int), ([] : List Int)), false))) else
   (gget 0 v0.2.2.2 v3.1).bind fun v8 =>
   let v9 : Int := ((v0.1).length : Int)
   let v10 : Bool := decide (v9 ≤ v8)
   bif v10 then (
    Option.map Sum.inr (
     some ((([] : List Int), ([] : List Int)), false))) else
   (gget 0 v0.2.2.2 v3.1).bind fun v11 =>
   (spec_l13Has (v3.2.1, v11)).bind fun v12 =>
   bif v12 then (
    let v13 : Int := wrap .i64 (v3.1 + 1)
    some (.inl (v13, v3.2))) else
   (spec_l33Distances (v0.1, (v0.2.1, v3.2.1))).bind fun v13 =>
   (gget 0 v0.2.2.2 v3.1).bind fun v14 =>
   (gin (v13).length v14).bind fun _ =>
   (gget 0 v13 v14).bind fun v16 =>
   let v17 : Bool := decide (v16 < 0)
   bif v17 then (
    Option.map Sum.inr (
     some ((([] : List Int), ([] : List Int)), false))) else
   (gget 0 v0.2.2.2 v3.1).bind fun v18 =>
   (spec_l33Path (v0.1, (v0.2.1, (v13, v18)))).bind fun v19 =>
   Pu.loop (fun (v20 : (Int × Int)) =>
    let v21 : Int := ((v3.2.1).length : Int)
    let v22 : Bool := decide (v20.1 < v21)
    bif v22 then (
     (gin (v3.2.1).length v20.1).bind fun _ =>
     (gget 0 v3.2.1 v20.1).bind fun v24 =>
     (gin (v19).length 0).bind fun _ =>
     (gget 0 v19 0).bind fun v26 =>
     let v27 : Bool := decide (v24 = v26)
     bif v27 then (
      let v28 : Int := wrap .i64 (v20.1 + 1)
      some (.inl (v28, v20.1))) else
     let v28 : Int := wrap .i64 (v20.1 + 1)
     some (.inl (v28, v20.2))) else
    Option.map Sum.inr (
     Pu.loop (fun (v23 : (Int × (Int × (List Int × List Int)))) =>
      let v24 : Int := ((v19).length : Int)
      let v25 : Bool := decide (v23.2.1 < v24)
      bif v25 then (
       (gin (v19).length v23.2.1).bind fun _ =>
       (gget 0 v19 v23.2.1).bind fun v27 =>
       let v28 : List Int := [v27]
       (gapp 8 v23.2.2.1 v28).bind fun v29 =>
       let v30 : List Int := [v23.1]
       (gapp 8 v23.2.2.2 v30).bind fun v31 =>
       let v32 : Int := ((v29).length : Int)
       let v33 : Int := wrap .i64 (v32 - 1)
       let v34 : Int := wrap .i64 (v23.2.1 + 1)
       some (.inl (v33, (v34, (v29, v31))))) else
      Option.map Sum.inr (
       let v26 : Int := wrap .i64 (v3.1 + 1)
       some (.inl (v26, v23.2.2)))) (v20.2, (1, v3.2)))) (0, 0)) else
  Option.map Sum.inr (
   some (v3.2, true))) (0, (v1, v2))
noncomputable def laws_eqRouteS (v0 : (List (List Int × List Int) × List (List Int × List Int))) : Option Bool :=
 let v1 : Int := ((v0.1).length : Int)
 let v2 : Int := ((v0.2).length : Int)
 let v3 : Bool := decide (v1 ≠ v2)
 bif v3 then (
  some false) else
 Pu.loop (fun (v4 : Int) =>
  let v5 : Int := ((v0.1).length : Int)
  let v6 : Bool := decide (v4 < v5)
  bif v6 then (
   (gget ([], []) v0.1 v4).bind fun v7 =>
   (gget ([], []) v0.2 v4).bind fun v8 =>
   (laws_eqRoute (v7, v8)).bind fun v9 =>
   let v10 : Bool := !v9
   bif v10 then (
    Option.map Sum.inr (
     some false)) else
   let v11 : Int := wrap .i64 (v4 + 1)
   some (.inl v11)) else
  Option.map Sum.inr (
   some true)) 0
noncomputable def spec_RouteNodes (v0 : (Int × (Int × (Int × Int)))) : Option Int :=
 (spec_DeviceOk v0).bind fun v1 =>
 let v2 : Bool := !v1
 bif v2 then (
  some 0) else
 let v3 : Int := wrap .i64 (v0.1 * v0.2.1)
 (spec_l27Per v0).bind fun v4 =>
 let v5 : Int := wrap .i64 (v3 * v4)
 some v5
noncomputable def impl_wireOf (v0 : ((Int × (Int × (Int × Int))) × Int)) : Option (Int × (Int × (Int × Bool))) :=
 (impl_nodePlace v0).bind fun v1 =>
 let v2 : Int := wrap .i64 (v1.2 - 7)
 (gdiv .i64 v2 v0.1.2.2.1).bind fun v3 =>
 let v4 : Int := wrap .i64 (v1.2 - 7)
 (grem v4 v0.1.2.2.1).bind fun v5 =>
 let v6 : Bool := decide (7 ≤ v1.2)
 some (v1.1, (v3, (v5, v6)))
noncomputable def impl_cheapestPath (v0 : ((List (List Int) × List (List Int)) × (List Int × (List Int × Int)))) : Option (List Int) :=
 (impl_distances (v0.1, (v0.2.1, v0.2.2.1))).bind fun v1 =>
 let v2 : Int := ((v1).length : Int)
 let v3 : Int := wrap .i64 (v2 - 1)
 (impl_inRange (v0.2.2.2, (0, v3))).bind fun v4 =>
 let v5 : Bool := !v4
 bif v5 then (
  some ([] : List Int)) else
 (gin (v1).length v0.2.2.2).bind fun _ =>
 (gget 0 v1 v0.2.2.2).bind fun v7 =>
 let v8 : Bool := decide (v7 = (-1))
 bif v8 then (
  some ([] : List Int)) else
 let v9 : List Int := [v0.2.2.2]
 Pu.loop (fun (v10 : (Int × List Int)) =>
  (impl_hasInt (v0.2.2.1, v10.1)).bind fun v11 =>
  let v12 : Bool := !v11
  bif v12 then (
   (gget [] v0.1.1 v10.1).bind fun v13 =>
   let v14 : Int := ((v13).length : Int)
   joinO (
    Pu.loop (fun (v15 : Int) =>
     let v16 : Bool := decide (v15 < v14)
     bif v16 then (
      (gget 0 v13 v15).bind fun v17 =>
      (gin (v1).length v17).bind fun _ =>
      (gget 0 v1 v17).bind fun v19 =>
      let v20 : Bool := decide (v19 ≠ (-1))
      bif v20 then (
       (gin (v1).length v17).bind fun _ =>
       (gget 0 v1 v17).bind fun v22 =>
       (gget 0 v0.2.1 v10.1).bind fun v23 =>
       let v24 : Int := wrap .i64 (v22 + v23)
       (gin (v1).length v10.1).bind fun _ =>
       (gget 0 v1 v10.1).bind fun v26 =>
       let v27 : Bool := decide (v24 = v26)
       bif v27 then (
        Option.map Sum.inr (
         some (.inl v17))) else
       let v28 : Int := wrap .i64 (v15 + 1)
       some (.inl v28)) else
      let v21 : Int := wrap .i64 (v15 + 1)
      some (.inl v21)) else
     Option.map Sum.inr (
      some (.inl v10.1))) 0) (fun (v15 : Int) =>
    let v16 : List Int := [v15]
    (gapp 8 v16 v10.2).bind fun v17 =>
    some (.inl (v15, v17)))) else
  Option.map Sum.inr (
   some v10.2)) (v0.2.2.2, v9)
noncomputable def impl_RouteNodeOk (v0 : ((Int × (Int × (Int × Int))) × Int)) : Option Bool :=
 (impl_DeviceOk v0.1).bind fun v1 =>
 let v2 : Bool := !v1
 bif v2 then (
  some false) else
 (impl_routeNodes v0.1).bind fun v3 =>
 let v4 : Int := wrap .i64 (v3 - 1)
 (impl_inRange (v0.2, (0, v4))).bind fun v5 =>
 let v6 : Bool := !v5
 bif v6 then (
  some false) else
 (impl_nodePlace v0).bind fun v7 =>
 let v8 : Bool := decide (v7.2 < 5)
 bif v8 then (
  (impl_tileKind (v0.1, v7.1)).bind fun v9 =>
  (impl_InPins v9).bind fun v10 =>
  let v11 : Bool := decide (v7.2 < v10)
  some v11) else
 let v9 : Bool := decide (v7.2 < 7)
 bif v9 then (
  let v10 : Int := wrap .i64 (v7.2 - 5)
  (impl_tileKind (v0.1, v7.1)).bind fun v11 =>
  (impl_OutPins v11).bind fun v12 =>
  let v13 : Bool := decide (v10 < v12)
  some v13) else
 (impl_wireOf v0).bind fun v10 =>
 (impl_wireLength v10.2.2.1).bind fun v11 =>
 (impl_tileStep (v0.1, (v7.1, (v10.2.1, v11)))).bind fun v12 =>
 let v13 : Bool := decide (0 ≤ v12)
 some v13
noncomputable def spec_TileStep (v0 : ((Int × (Int × (Int × Int))) × (Int × (Int × Int)))) : Option Int :=
 (spec_TileKind (v0.1, v0.2.1)).bind fun v1 =>
 let v2 : Bool := decide (v1 < 0)
 bif v2 then (
  some (-1)) else
 (spec_l01In (v0.2.2.1, (0, 3))).bind fun v3 =>
 let v4 : Bool := !v3
 bif v4 then (
  some (-1)) else
 (spec_l01In (v0.2.2.2, (0, 6))).bind fun v5 =>
 let v6 : Bool := !v5
 bif v6 then (
  some (-1)) else
 (grem v0.2.1 v0.1.1).bind fun v7 =>
 let v8 : List Int := [1, 0, (-1), 0]
 (gin (v8).length v0.2.2.1).bind fun _ =>
 (gget 0 v8 v0.2.2.1).bind fun v10 =>
 let v11 : Int := wrap .i64 (v10 * v0.2.2.2)
 let v12 : Int := wrap .i64 (v7 + v11)
 (gdiv .i64 v0.2.1 v0.1.1).bind fun v13 =>
 let v14 : List Int := [0, 1, 0, (-1)]
 (gin (v14).length v0.2.2.1).bind fun _ =>
 (gget 0 v14 v0.2.2.1).bind fun v16 =>
 let v17 : Int := wrap .i64 (v16 * v0.2.2.2)
 let v18 : Int := wrap .i64 (v13 + v17)
 let v19 : Int := wrap .i64 (v0.1.1 - 1)
 (spec_l01In (v12, (0, v19))).bind fun v20 =>
 let v21 : Bool := !v20
 bif v21 then (
  some (-1)) else
 let v22 : Int := wrap .i64 (v0.1.2.1 - 1)
 (spec_l01In (v18, (0, v22))).bind fun v23 =>
 let v24 : Bool := !v23
 bif v24 then (
  some (-1)) else
 let v25 : Int := wrap .i64 (v18 * v0.1.1)
 let v26 : Int := wrap .i64 (v25 + v12)
 some v26
noncomputable def spec_OutPin (v0 : ((Int × (Int × (Int × Int))) × (Int × Int))) : Option Int :=
 let v1 : Bool := decide (v0.2.2 < 0)
 bif v1 then (
  some (-1)) else
 (spec_TileKind (v0.1, v0.2.1)).bind fun v2 =>
 (spec_OutPins v2).bind fun v3 =>
 let v4 : Bool := decide (v3 ≤ v0.2.2)
 bif v4 then (
  some (-1)) else
 (spec_l27Per v0.1).bind fun v5 =>
 let v6 : Int := wrap .i64 (v0.2.1 * v5)
 let v7 : Int := wrap .i64 (v6 + 5)
 let v8 : Int := wrap .i64 (v7 + v0.2.2)
 some v8
noncomputable def impl_OutPin (v0 : ((Int × (Int × (Int × Int))) × (Int × Int))) : Option Int :=
 (impl_tileOk (v0.1, v0.2.1)).bind fun v1 =>
 let v2 : Bool := !v1
 bif v2 then (
  some (-1)) else
 (impl_tileKind (v0.1, v0.2.1)).bind fun v3 =>
 (impl_OutPins v3).bind fun v4 =>
 let v5 : Int := wrap .i64 (v4 - 1)
 (impl_inRange (v0.2.2, (0, v5))).bind fun v6 =>
 let v7 : Bool := !v6
 bif v7 then (
  some (-1)) else
 (impl_perTile v0.1).bind fun v8 =>
 let v9 : Int := wrap .i64 (v0.2.1 * v8)
 let v10 : Int := wrap .i64 (v9 + 5)
 let v11 : Int := wrap .i64 (v10 + v0.2.2)
 some v11
noncomputable def spec_InPin (v0 : ((Int × (Int × (Int × Int))) × (Int × Int))) : Option Int :=
 let v1 : Bool := decide (v0.2.2 < 0)
 bif v1 then (
  some (-1)) else
 (spec_TileKind (v0.1, v0.2.1)).bind fun v2 =>
 (spec_InPins v2).bind fun v3 =>
 let v4 : Bool := decide (v3 ≤ v0.2.2)
 bif v4 then (
  some (-1)) else
 (spec_l27Per v0.1).bind fun v5 =>
 let v6 : Int := wrap .i64 (v0.2.1 * v5)
 let v7 : Int := wrap .i64 (v6 + v0.2.2)
 some v7
noncomputable def impl_InPin (v0 : ((Int × (Int × (Int × Int))) × (Int × Int))) : Option Int :=
 (impl_tileOk (v0.1, v0.2.1)).bind fun v1 =>
 let v2 : Bool := !v1
 bif v2 then (
  some (-1)) else
 (impl_tileKind (v0.1, v0.2.1)).bind fun v3 =>
 (impl_InPins v3).bind fun v4 =>
 let v5 : Int := wrap .i64 (v4 - 1)
 (impl_inRange (v0.2.2, (0, v5))).bind fun v6 =>
 let v7 : Bool := !v6
 bif v7 then (
  some (-1)) else
 (impl_perTile v0.1).bind fun v8 =>
 let v9 : Int := wrap .i64 (v0.2.1 * v8)
 let v10 : Int := wrap .i64 (v9 + v0.2.2)
 some v10
noncomputable def impl_growRoute (v0 : ((List (List Int) × List (List Int)) × (List Int × (Int × List Int)))) : Option ((List Int × List Int) × Bool) :=
 let v1 : List Int := [v0.2.2.1]
 let v2 : List Int := [0]
 let v3 : Int := ((v0.2.2.2).length : Int)
 Pu.loop (fun (v4 : (Int × (List Int × List Int))) =>
  let v5 : Bool := decide (v4.1 < v3)
  bif v5 then (
   (gget 0 v0.2.2.2 v4.1).bind fun v6 =>
   (impl_hasInt (v4.2.1, v6)).bind fun v7 =>
   bif v7 then (
    let v8 : Int := wrap .i64 (v4.1 + 1)
    some (.inl (v8, v4.2))) else
   (impl_cheapestPath (v0.1, (v0.2.1, (v4.2.1, v6)))).bind fun v8 =>
   (gnil true v8).bind fun v9 =>
   bif v9 then (
    Option.map Sum.inr (
     some ((([] : List Int), ([] : List Int)), false))) else
   let v10 : Int := ((v4.2.1).length : Int)
   Pu.loop (fun (v11 : (Int × Int)) =>
    let v12 : Bool := decide (v11.1 < v10)
    bif v12 then (
     (gin (v4.2.1).length v11.1).bind fun _ =>
     (gget 0 v4.2.1 v11.1).bind fun v14 =>
     (gin (v8).length 0).bind fun _ =>
     (gget 0 v8 0).bind fun v16 =>
     let v17 : Bool := decide (v14 = v16)
     bif v17 then (
      let v18 : Int := wrap .i64 (v11.1 + 1)
      some (.inl (v18, v11.1))) else
     let v18 : Int := wrap .i64 (v11.1 + 1)
     some (.inl (v18, v11.2))) else
    Option.map Sum.inr (
     (gslice v8 1 ((v8).length : Int)).bind fun v13 =>
     let v14 : Int := ((v13).length : Int)
     Pu.loop (fun (v15 : (Int × (Int × (List Int × List Int)))) =>
      let v16 : Bool := decide (v15.2.1 < v14)
      bif v16 then (
       (gget 0 v13 v15.2.1).bind fun v17 =>
       let v18 : List Int := [v17]
       (gapp 8 v15.2.2.1 v18).bind fun v19 =>
       let v20 : List Int := [v15.1]
       (gapp 8 v15.2.2.2 v20).bind fun v21 =>
       let v22 : Int := ((v19).length : Int)
       let v23 : Int := wrap .i64 (v22 - 1)
       let v24 : Int := wrap .i64 (v15.2.1 + 1)
       some (.inl (v23, (v24, (v19, v21))))) else
      Option.map Sum.inr (
       let v17 : Int := wrap .i64 (v4.1 + 1)
       some (.inl (v17, v15.2.2)))) (v11.2, (0, v4.2)))) (0, 0)) else
  Option.map Sum.inr (
   some (v4.2, true))) (0, (v1, v2))
noncomputable def impl_WireNode (v0 : ((Int × (Int × (Int × Int))) × (Int × (Int × Int)))) : Option Int :=
 (impl_tileOk (v0.1, v0.2.1)).bind fun v1 =>
 let v2 : Bool := !v1
 bif v2 then (
  some (-1)) else
 (impl_inRange (v0.2.2.1, (0, 3))).bind fun v3 =>
 let v4 : Bool := !v3
 bif v4 then (
  some (-1)) else
 let v5 : Int := wrap .i64 (v0.1.2.2.1 - 1)
 (impl_inRange (v0.2.2.2, (0, v5))).bind fun v6 =>
 let v7 : Bool := !v6
 bif v7 then (
  some (-1)) else
 (impl_wireLength v0.2.2.2).bind fun v8 =>
 (impl_tileStep (v0.1, (v0.2.1, (v0.2.2.1, v8)))).bind fun v9 =>
 let v10 : Bool := decide (v9 < 0)
 bif v10 then (
  some (-1)) else
 let v11 : Int := wrap .i64 (v0.2.2.1 * v0.1.2.2.1)
 (impl_perTile v0.1).bind fun v12 =>
 let v13 : Int := wrap .i64 (v0.2.1 * v12)
 let v14 : Int := wrap .i64 (v13 + 7)
 let v15 : Int := wrap .i64 (v14 + v11)
 let v16 : Int := wrap .i64 (v15 + v0.2.2.2)
 some v16
noncomputable def spec_RouteNodeOk (v0 : ((Int × (Int × (Int × Int))) × Int)) : Option Bool :=
 let v1 : Bool := decide (v0.2 < 0)
 bif v1 then (
  some false) else
 (spec_RouteNodes v0.1).bind fun v2 =>
 let v3 : Bool := decide (v2 ≤ v0.2)
 bif v3 then (
  some false) else
 (spec_l27Per v0.1).bind fun v4 =>
 (gdiv .i64 v0.2 v4).bind fun v5 =>
 (spec_l27Per v0.1).bind fun v6 =>
 (grem v0.2 v6).bind fun v7 =>
 let v8 : Bool := decide (v7 < 5)
 bif v8 then (
  (spec_TileKind (v0.1, v5)).bind fun v9 =>
  (spec_InPins v9).bind fun v10 =>
  let v11 : Bool := decide (v7 < v10)
  some v11) else
 let v9 : Bool := decide (v7 < 7)
 bif v9 then (
  let v10 : Int := wrap .i64 (v7 - 5)
  (spec_TileKind (v0.1, v5)).bind fun v11 =>
  (spec_OutPins v11).bind fun v12 =>
  let v13 : Bool := decide (v10 < v12)
  some v13) else
 (spec_l27Wire v0).bind fun v10 =>
 (grem v10.2 2).bind fun v11 =>
 let v12 : Int := wrap .i64 (1 + v11)
 (spec_TileStep (v0.1, (v5, (v10.1, v12)))).bind fun v13 =>
 let v14 : Bool := decide (0 ≤ v13)
 some v14
noncomputable def spec_SourceNode (v0 : ((Int × (Int × (Int × Int))) × (List Int × (Int × ((Int × Int) × List (Int × Int)))))) : Option Int :=
 let v1 : Bool := decide (v0.2.2.2.1.1 < 0)
 bif v1 then (
  some (-1)) else
 let v2 : Int := ((v0.2.1).length : Int)
 let v3 : Bool := decide (v2 ≤ v0.2.2.2.1.1)
 bif v3 then (
  some (-1)) else
 (gget 0 v0.2.1 v0.2.2.2.1.1).bind fun v4 =>
 (spec_OutPin (v0.1, (v4, v0.2.2.2.1.2))).bind fun v5 =>
 some v5
noncomputable def impl_SourceNode (v0 : ((Int × (Int × (Int × Int))) × (List Int × (Int × ((Int × Int) × List (Int × Int)))))) : Option Int :=
 let v1 : Int := ((v0.2.1).length : Int)
 let v2 : Int := wrap .i64 (v1 - 1)
 (impl_inRange (v0.2.2.2.1.1, (0, v2))).bind fun v3 =>
 let v4 : Bool := !v3
 bif v4 then (
  some (-1)) else
 (gget 0 v0.2.1 v0.2.2.2.1.1).bind fun v5 =>
 (impl_OutPin (v0.1, (v5, v0.2.2.2.1.2))).bind fun v6 =>
 some v6
noncomputable def spec_SinkNodes (v0 : ((Int × (Int × (Int × Int))) × (List Int × (Int × ((Int × Int) × List (Int × Int)))))) : Option (List Int) :=
 Pu.loop (fun (v1 : (Int × List Int)) =>
  let v2 : Int := ((v0.2.2.2.2).length : Int)
  let v3 : Bool := decide (v1.1 < v2)
  bif v3 then (
   (gget (0, 0) v0.2.2.2.2 v1.1).bind fun v4 =>
   let v5 : Bool := decide (v4.1 < 0)
   bif v5 then (
    Option.map Sum.inr (
     some ([] : List Int))) else
   let v6 : Int := ((v0.2.1).length : Int)
   let v7 : Bool := decide (v6 ≤ v4.1)
   bif v7 then (
    Option.map Sum.inr (
     some ([] : List Int))) else
   (gget 0 v0.2.1 v4.1).bind fun v8 =>
   (gget (0, 0) v0.2.2.2.2 v1.1).bind fun v9 =>
   (spec_InPin (v0.1, (v8, v9.2))).bind fun v10 =>
   let v11 : Bool := decide (v10 < 0)
   bif v11 then (
    Option.map Sum.inr (
     some ([] : List Int))) else
   let v12 : List Int := [v10]
   (gapp 8 v1.2 v12).bind fun v13 =>
   let v14 : Int := wrap .i64 (v1.1 + 1)
   some (.inl (v14, v13))) else
  Option.map Sum.inr (
   some v1.2)) (0, ([] : List Int))
noncomputable def impl_SinkNodes (v0 : ((Int × (Int × (Int × Int))) × (List Int × (Int × ((Int × Int) × List (Int × Int)))))) : Option (List Int) :=
 let v1 : Int := ((v0.2.2.2.2).length : Int)
 Pu.loop (fun (v2 : (List Int × Int)) =>
  let v3 : Bool := decide (v2.2 < v1)
  bif v3 then (
   (gget (0, 0) v0.2.2.2.2 v2.2).bind fun v4 =>
   let v5 : Int := ((v0.2.1).length : Int)
   let v6 : Int := wrap .i64 (v5 - 1)
   (impl_inRange (v4.1, (0, v6))).bind fun v7 =>
   let v8 : Bool := !v7
   bif v8 then (
    Option.map Sum.inr (
     some ([] : List Int))) else
   (gget 0 v0.2.1 v4.1).bind fun v9 =>
   (impl_InPin (v0.1, (v9, v4.2))).bind fun v10 =>
   let v11 : Bool := decide (v10 < 0)
   bif v11 then (
    Option.map Sum.inr (
     some ([] : List Int))) else
   let v12 : List Int := [v10]
   (gapp 8 v2.1 v12).bind fun v13 =>
   let v14 : Int := wrap .i64 (v2.2 + 1)
   some (.inl (v13, v14))) else
  Option.map Sum.inr (
   some v2.1)) (([] : List Int), 0)
noncomputable def spec_WireNode (v0 : ((Int × (Int × (Int × Int))) × (Int × (Int × Int)))) : Option Int :=
 (spec_TileKind (v0.1, v0.2.1)).bind fun v1 =>
 let v2 : Bool := decide (v1 < 0)
 bif v2 then (
  some (-1)) else
 let v3 : Bool := decide (v0.2.2.2 < 0)
 bif v3 then (
  some (-1)) else
 let v4 : Bool := decide (v0.1.2.2.1 ≤ v0.2.2.2)
 bif v4 then (
  some (-1)) else
 (grem v0.2.2.2 2).bind fun v5 =>
 let v6 : Int := wrap .i64 (1 + v5)
 (spec_TileStep (v0.1, (v0.2.1, (v0.2.2.1, v6)))).bind fun v7 =>
 let v8 : Bool := decide (v7 < 0)
 bif v8 then (
  some (-1)) else
 let v9 : Int := wrap .i64 (v0.2.2.1 * v0.1.2.2.1)
 (spec_l27Per v0.1).bind fun v10 =>
 let v11 : Int := wrap .i64 (v0.2.1 * v10)
 let v12 : Int := wrap .i64 (v11 + 7)
 let v13 : Int := wrap .i64 (v12 + v9)
 let v14 : Int := wrap .i64 (v13 + v0.2.2.2)
 some v14
noncomputable def impl_pinSources (v0 : ((Int × (Int × (Int × Int))) × (Int × Int))) : Option (List Int) :=
 Pu.loop (fun (v1 : (List Int × Int)) =>
  let v2 : Bool := decide (v1.2 < 4)
  bif v2 then (
   Pu.loop (fun (v3 : (Int × List Int)) =>
    let v4 : Bool := decide (v3.1 < v0.1.2.2.1)
    bif v4 then (
     joinO (
      let v5 : Bool := decide (1 < v0.1.2.2.1)
      bif v5 then (
       let v6 : Int := wrap .i64 (v3.1 + v0.2.2)
       (grem v6 2).bind fun v7 =>
       let v8 : Bool := decide (v7 ≠ 0)
       bif v8 then (
        Option.map Sum.inr (
         let v9 : Int := wrap .i64 (v3.1 + 1)
         some (.inl (v9, v3.2)))) else
       some (.inl ())) else
      some (.inl ())) (fun (v5 : Unit) =>
      Pu.loop (fun (v6 : (Int × List Int)) =>
       (impl_wireLength v3.1).bind fun v7 =>
       let v8 : Bool := decide (v6.1 ≤ v7)
       bif v8 then (
        let v9 : Int := wrap .i64 (v1.2 + 2)
        (grem v9 4).bind fun v10 =>
        (impl_tileStep (v0.1, (v0.2.1, (v10, v6.1)))).bind fun v11 =>
        let v12 : Bool := decide (v11 < 0)
        bif v12 then (
         let v13 : Int := wrap .i64 (v6.1 + 1)
         some (.inl (v13, v6.2))) else
        (impl_WireNode (v0.1, (v11, (v1.2, v3.1)))).bind fun v13 =>
        let v14 : Bool := decide (0 ≤ v13)
        bif v14 then (
         (impl_insertInt (v6.2, v13)).bind fun v15 =>
         let v16 : Int := wrap .i64 (v6.1 + 1)
         some (.inl (v16, v15))) else
        let v15 : Int := wrap .i64 (v6.1 + 1)
        some (.inl (v15, v6.2))) else
       Option.map Sum.inr (
        let v9 : Int := wrap .i64 (v3.1 + 1)
        some (.inl (v9, v6.2)))) (1, v3.2))) else
    Option.map Sum.inr (
     let v5 : Int := wrap .i64 (v1.2 + 1)
     some (.inl (v3.2, v5)))) (0, v1.1)) else
  Option.map Sum.inr (
   some v1.1)) (([] : List Int), 0)
noncomputable def impl_wireSources (v0 : ((Int × (Int × (Int × Int))) × (Int × (Int × Int)))) : Option (List Int) :=
 Pu.loop (fun (v1 : (List Int × Int)) =>
  let v2 : Bool := decide (v1.2 < 2)
  bif v2 then (
   (impl_OutPin (v0.1, (v0.2.1, v1.2))).bind fun v3 =>
   let v4 : Bool := decide (0 ≤ v3)
   bif v4 then (
    (impl_insertInt (v1.1, v3)).bind fun v5 =>
    let v6 : Int := wrap .i64 (v1.2 + 1)
    some (.inl (v5, v6))) else
   let v5 : Int := wrap .i64 (v1.2 + 1)
   some (.inl (v1.1, v5))) else
  Option.map Sum.inr (
   Pu.loop (fun (v3 : (Int × List Int)) =>
    let v4 : Bool := decide (v3.1 < 4)
    bif v4 then (
     let v5 : Int := wrap .i64 (v0.2.2.1 + 2)
     (grem v5 4).bind fun v6 =>
     let v7 : Bool := decide (v3.1 = v6)
     bif v7 then (
      let v8 : Int := wrap .i64 (v3.1 + 1)
      some (.inl (v8, v3.2))) else
     let v8 : Int := wrap .i64 (v0.2.2.2 + 1)
     (grem v8 v0.1.2.2.1).bind fun v9 =>
     let v10 : List Int := [v0.2.2.2, v9]
     let v11 : Int := ((v10).length : Int)
     Pu.loop (fun (v12 : (Int × List Int)) =>
      let v13 : Bool := decide (v12.1 < v11)
      bif v13 then (
       (gin (v10).length v12.1).bind fun _ =>
       (gget 0 v10 v12.1).bind fun v15 =>
       let v16 : Int := wrap .i64 (v3.1 + 2)
       (grem v16 4).bind fun v17 =>
       (impl_wireLength v15).bind fun v18 =>
       (impl_tileStep (v0.1, (v0.2.1, (v17, v18)))).bind fun v19 =>
       let v20 : Bool := decide (0 ≤ v19)
       bif v20 then (
        (impl_WireNode (v0.1, (v19, (v3.1, v15)))).bind fun v21 =>
        (impl_insertInt (v12.2, v21)).bind fun v22 =>
        let v23 : Int := wrap .i64 (v12.1 + 1)
        some (.inl (v23, v22))) else
       let v21 : Int := wrap .i64 (v12.1 + 1)
       some (.inl (v21, v12.2))) else
      Option.map Sum.inr (
       let v14 : Int := wrap .i64 (v3.1 + 1)
       some (.inl (v14, v12.2)))) (0, v3.2)) else
    Option.map Sum.inr (
     some v3.2)) (0, v1.1))) (([] : List Int), 0)
noncomputable def spec_Sources (v0 : ((Int × (Int × (Int × Int))) × Int)) : Option (List Int) :=
 (spec_RouteNodeOk v0).bind fun v1 =>
 let v2 : Bool := !v1
 bif v2 then (
  some ([] : List Int)) else
 (spec_l27Per v0.1).bind fun v3 =>
 (gdiv .i64 v0.2 v3).bind fun v4 =>
 (spec_l27Per v0.1).bind fun v5 =>
 (grem v0.2 v5).bind fun v6 =>
 let v7 : Bool := decide (v6 = 5)
 bif v7 then (
  some ([] : List Int)) else
 let v8 : Bool := decide (v6 = 6)
 bif v8 then (
  some ([] : List Int)) else
 joinO (
  let v9 : Bool := decide (7 ≤ v6)
  bif v9 then (
   (spec_l27Wire v0).bind fun v10 =>
   (spec_OutPin (v0.1, (v4, 0))).bind fun v11 =>
   let v12 : List Int := [v11]
   (gapp 8 ([] : List Int) v12).bind fun v13 =>
   (spec_TileKind (v0.1, v4)).bind fun v14 =>
   (spec_OutPins v14).bind fun v15 =>
   let v16 : Bool := decide (1 < v15)
   bif v16 then (
    (spec_OutPin (v0.1, (v4, 1))).bind fun v17 =>
    let v18 : List Int := [v17]
    (gapp 8 v13 v18).bind fun v19 =>
    some (.inl (v10.1, (v10.2, v19)))) else
   some (.inl (v10.1, (v10.2, v13)))) else
  some (.inl (0, (0, ([] : List Int))))) (fun (v9 : (Int × (Int × List Int))) =>
  Pu.loop (fun (v10 : (Int × List Int)) =>
   let v11 : Bool := decide (v10.1 < 4)
   bif v11 then (
    Pu.loop (fun (v12 : (Int × List Int)) =>
     let v13 : Bool := decide (v12.1 < v0.1.2.2.1)
     bif v13 then (
      joinO (
       let v14 : Bool := decide (7 ≤ v6)
       bif v14 then (
        let v15 : Int := wrap .i64 (v9.1 + 2)
        (grem v15 4).bind fun v16 =>
        let v17 : Bool := decide (v10.1 = v16)
        bif v17 then (
         Option.map Sum.inr (
          let v18 : Int := wrap .i64 (v12.1 + 1)
          some (.inl (v18, v12.2)))) else
        let v18 : Bool := decide (v12.1 ≠ v9.2.1)
        bif v18 then (
         let v19 : Int := wrap .i64 (v9.2.1 + 1)
         (grem v19 v0.1.2.2.1).bind fun v20 =>
         let v21 : Bool := decide (v12.1 ≠ v20)
         bif v21 then (
          Option.map Sum.inr (
           let v22 : Int := wrap .i64 (v12.1 + 1)
           some (.inl (v22, v12.2)))) else
         let v22 : Bool := decide (v6 < 7)
         bif v22 then (
          let v23 : Bool := decide (1 < v0.1.2.2.1)
          bif v23 then (
           let v24 : Int := wrap .i64 (v12.1 + v6)
           (grem v24 2).bind fun v25 =>
           let v26 : Bool := decide (v25 = 1)
           bif v26 then (
            Option.map Sum.inr (
             let v27 : Int := wrap .i64 (v12.1 + 1)
             some (.inl (v27, v12.2)))) else
           some (.inl ())) else
          some (.inl ())) else
         some (.inl ())) else
        let v19 : Bool := decide (v6 < 7)
        bif v19 then (
         let v20 : Bool := decide (1 < v0.1.2.2.1)
         bif v20 then (
          let v21 : Int := wrap .i64 (v12.1 + v6)
          (grem v21 2).bind fun v22 =>
          let v23 : Bool := decide (v22 = 1)
          bif v23 then (
           Option.map Sum.inr (
            let v24 : Int := wrap .i64 (v12.1 + 1)
            some (.inl (v24, v12.2)))) else
          some (.inl ())) else
         some (.inl ())) else
        some (.inl ())) else
       let v15 : Bool := decide (v6 < 7)
       bif v15 then (
        let v16 : Bool := decide (1 < v0.1.2.2.1)
        bif v16 then (
         let v17 : Int := wrap .i64 (v12.1 + v6)
         (grem v17 2).bind fun v18 =>
         let v19 : Bool := decide (v18 = 1)
         bif v19 then (
          Option.map Sum.inr (
           let v20 : Int := wrap .i64 (v12.1 + 1)
           some (.inl (v20, v12.2)))) else
         some (.inl ())) else
        some (.inl ())) else
       some (.inl ())) (fun (v14 : Unit) =>
       Pu.loop (fun (v15 : (Int × List Int)) =>
        (grem v12.1 2).bind fun v16 =>
        let v17 : Int := wrap .i64 (1 + v16)
        let v18 : Bool := decide (v15.1 ≤ v17)
        bif v18 then (
         let v19 : Bool := decide (7 ≤ v6)
         bif v19 then (
          (grem v12.1 2).bind fun v20 =>
          let v21 : Int := wrap .i64 (1 + v20)
          let v22 : Bool := decide (v15.1 < v21)
          bif v22 then (
           let v23 : Int := wrap .i64 (v15.1 + 1)
           some (.inl (v23, v15.2))) else
          let v23 : Int := wrap .i64 (v10.1 + 2)
          (grem v23 4).bind fun v24 =>
          (spec_TileStep (v0.1, (v4, (v24, v15.1)))).bind fun v25 =>
          (spec_WireNode (v0.1, (v25, (v10.1, v12.1)))).bind fun v26 =>
          let v27 : Bool := decide (0 ≤ v26)
          bif v27 then (
           let v28 : List Int := [v26]
           (gapp 8 v15.2 v28).bind fun v29 =>
           let v30 : Int := wrap .i64 (v15.1 + 1)
           some (.inl (v30, v29))) else
          let v28 : Int := wrap .i64 (v15.1 + 1)
          some (.inl (v28, v15.2))) else
         let v20 : Int := wrap .i64 (v10.1 + 2)
         (grem v20 4).bind fun v21 =>
         (spec_TileStep (v0.1, (v4, (v21, v15.1)))).bind fun v22 =>
         (spec_WireNode (v0.1, (v22, (v10.1, v12.1)))).bind fun v23 =>
         let v24 : Bool := decide (0 ≤ v23)
         bif v24 then (
          let v25 : List Int := [v23]
          (gapp 8 v15.2 v25).bind fun v26 =>
          let v27 : Int := wrap .i64 (v15.1 + 1)
          some (.inl (v27, v26))) else
         let v25 : Int := wrap .i64 (v15.1 + 1)
         some (.inl (v25, v15.2))) else
        Option.map Sum.inr (
         let v19 : Int := wrap .i64 (v12.1 + 1)
         some (.inl (v19, v15.2)))) (1, v12.2))) else
     Option.map Sum.inr (
      let v14 : Int := wrap .i64 (v10.1 + 1)
      some (.inl (v14, v12.2)))) (0, v10.2)) else
   Option.map Sum.inr (
    (spec_l27Sort v10.2).bind fun v12 =>
    some v12)) (0, v9.2.2))
noncomputable def impl_Sources (v0 : ((Int × (Int × (Int × Int))) × Int)) : Option (List Int) :=
 (impl_RouteNodeOk v0).bind fun v1 =>
 let v2 : Bool := !v1
 bif v2 then (
  some ([] : List Int)) else
 (impl_nodePlace v0).bind fun v3 =>
 let v4 : Bool := decide (v3.2 < 5)
 bif v4 then (
  (impl_pinSources (v0.1, v3)).bind fun v5 =>
  some v5) else
 let v5 : Bool := decide (v3.2 < 7)
 bif v5 then (
  some ([] : List Int)) else
 (impl_wireOf v0).bind fun v6 =>
 (impl_wireSources (v0.1, (v3.1, (v6.2.1, v6.2.2.1)))).bind fun v7 =>
 some v7
noncomputable def spec_l33Graph (v0 : (Int × (Int × (Int × Int)))) : Option (List (List Int)) :=
 Pu.loop (fun (v1 : (Int × List (List Int))) =>
  (spec_RouteNodes v0).bind fun v2 =>
  let v3 : Bool := decide (v1.1 < v2)
  bif v3 then (
   (spec_Sources (v0, v1.1)).bind fun v4 =>
   let v5 : List (List Int) := [v4]
   (gapp 24 v1.2 v5).bind fun v6 =>
   let v7 : Int := wrap .i64 (v1.1 + 1)
   some (.inl (v7, v6))) else
  Option.map Sum.inr (
   some v1.2)) (0, ([] : List (List Int)))
noncomputable def impl_allSources (v0 : (Int × (Int × (Int × Int)))) : Option (List (List Int)) :=
 (impl_routeNodes v0).bind fun v1 =>
 (gmake 24 ([] : List Int) v1).bind fun v2 =>
 let v3 : Int := ((v2).length : Int)
 Pu.loop (fun (v4 : (Int × List (List Int))) =>
  let v5 : Bool := decide (v4.1 < v3)
  bif v5 then (
   (impl_Sources (v0, v4.1)).bind fun v6 =>
   (gin (v4.2).length v4.1).bind fun _ =>
   (gget [] v4.2 v4.1).bind fun v8 =>
   let v9 : List Int := v6
   let v10 : List (List Int) := gset v4.2 v4.1 v9
   let v11 : Int := wrap .i64 (v4.1 + 1)
   some (.inl (v11, v10))) else
  Option.map Sum.inr (
   some v4.2)) (0, v2)
noncomputable def impl_graphOf (v0 : (Int × (Int × (Int × Int)))) : Option (List (List Int) × List (List Int)) :=
 (impl_allSources v0).bind fun v1 =>
 (impl_routeNodes v0).bind fun v2 =>
 (gmake 24 ([] : List Int) v2).bind fun v3 =>
 let v4 : Int := ((v1).length : Int)
 Pu.loop (fun (v5 : (Int × List (List Int))) =>
  let v6 : Bool := decide (v5.1 < v4)
  bif v6 then (
   (gin (v1).length v5.1).bind fun _ =>
   (gget [] v1 v5.1).bind fun v8 =>
   let v9 : Int := ((v8).length : Int)
   Pu.loop (fun (v10 : (Int × List (List Int))) =>
    let v11 : Bool := decide (v10.1 < v9)
    bif v11 then (
     (gget 0 v8 v10.1).bind fun v12 =>
     (gin (v10.2).length v12).bind fun _ =>
     (gget [] v10.2 v12).bind fun v14 =>
     let v15 : List Int := [v5.1]
     (gget [] v10.2 v12).bind fun v16 =>
     (gapp 8 v16 v15).bind fun v17 =>
     (gin (v10.2).length v12).bind fun _ =>
     (gget [] v10.2 v12).bind fun v19 =>
     let v20 : List Int := v17
     let v21 : List (List Int) := gset v10.2 v12 v20
     let v22 : Int := wrap .i64 (v10.1 + 1)
     some (.inl (v22, v21))) else
    Option.map Sum.inr (
     let v12 : Int := wrap .i64 (v5.1 + 1)
     some (.inl (v12, v10.2)))) (0, v5.2)) else
  Option.map Sum.inr (
   some (v1, v5.2))) (0, v3)
noncomputable def laws_heldRouteS (v0 : (List (List Int × List Int) × Int)) : Option Int :=
 Pu.loop (fun (v1 : (Int × Int)) =>
  let v2 : Int := ((v0.1).length : Int)
  let v3 : Bool := decide (v1.2 < v2)
  bif v3 then (
   (gget ([], []) v0.1 v1.2).bind fun v4 =>
   (laws_heldIntS (v4.1, v1.1)).bind fun v5 =>
   let v6 : Bool := decide (v5 < 0)
   bif v6 then (
    Option.map Sum.inr (
     some (-1))) else
   (gget ([], []) v0.1 v1.2).bind fun v7 =>
   (laws_heldIntS (v7.2, v5)).bind fun v8 =>
   let v9 : Bool := decide (v8 < 0)
   bif v9 then (
    Option.map Sum.inr (
     some (-1))) else
   let v10 : Int := wrap .i64 (v1.2 + 1)
   some (.inl (v8, v10))) else
  Option.map Sum.inr (
   some v1.1)) (v0.2, 0)
noncomputable def spec_RouteAll (v0 : ((Int × (Int × (Int × Int))) × (List Int × List (Int × ((Int × Int) × List (Int × Int)))))) : Option (List (List Int × List Int) × Bool) :=
 (spec_DeviceOk v0.1).bind fun v1 =>
 let v2 : Bool := !v1
 bif v2 then (
  some (([] : List (List Int × List Int)), false)) else
 let v3 : Int := ((v0.2.1).length : Int)
 (spec_ConnsOk (v3, v0.2.2)).bind fun v4 =>
 let v5 : Bool := !v4
 bif v5 then (
  some (([] : List (List Int × List Int)), false)) else
 let v6 : Int := ((v0.2.2).length : Int)
 (gmake 48 (([], []) : (List Int × List Int)) v6).bind fun v7 =>
 Pu.loop (fun (v8 : Int) =>
  let v9 : Int := ((v0.2.2).length : Int)
  let v10 : Bool := decide (v8 < v9)
  bif v10 then (
   (gget (0, ((0, 0), [])) v0.2.2 v8).bind fun v11 =>
   (spec_SourceNode (v0.1, (v0.2.1, v11))).bind fun v12 =>
   let v13 : Bool := decide (v12 < 0)
   bif v13 then (
    Option.map Sum.inr (
     some (([] : List (List Int × List Int)), false))) else
   (gget (0, ((0, 0), [])) v0.2.2 v8).bind fun v14 =>
   (spec_SinkNodes (v0.1, (v0.2.1, v14))).bind fun v15 =>
   let v16 : Int := ((v15).length : Int)
   let v17 : Bool := decide (v16 = 0)
   bif v17 then (
    Option.map Sum.inr (
     some (([] : List (List Int × List Int)), false))) else
   let v18 : Int := wrap .i64 (v8 + 1)
   some (.inl v18)) else
  Option.map Sum.inr (
   (spec_l33Graph v0.1).bind fun v11 =>
   let v12 : Int := ((v11).length : Int)
   (gmake 8 (0 : Int) v12).bind fun v13 =>
   Pu.loop (fun (v14 : (Int × (List (List Int × List Int) × List Int))) =>
    let v15 : Bool := decide (v14.1 ≤ 12)
    bif v15 then (
     Pu.loop (fun (v16 : (Int × List (List Int × List Int))) =>
      let v17 : Int := ((v0.2.2).length : Int)
      let v18 : Bool := decide (v16.1 < v17)
      bif v18 then (
       let v19 : Int := ((v11).length : Int)
       (spec_l34Load (v19, (v16.2, v16.1))).bind fun v20 =>
       let v21 : Int := wrap .i64 (5 * v14.1)
       (spec_l34Costs (v14.2.2, (v20, v21))).bind fun v22 =>
       (gget (0, ((0, 0), [])) v0.2.2 v16.1).bind fun v23 =>
       (gget (0, ((0, 0), [])) v0.2.2 v16.1).bind fun v24 =>
       (spec_SourceNode (v0.1, (v0.2.1, v23))).bind fun v25 =>
       (spec_SinkNodes (v0.1, (v0.2.1, v24))).bind fun v26 =>
       (spec_l33Grow (v11, (v22, (v25, v26)))).bind fun v27 =>
       let v28 : Bool := !v27.2
       bif v28 then (
        Option.map Sum.inr (
         Option.map Sum.inr (
          some (([] : List (List Int × List Int)), false)))) else
       (gin (v16.2).length v16.1).bind fun _ =>
       (gget ([], []) v16.2 v16.1).bind fun v30 =>
       let v31 : (List Int × List Int) := v27.1
       let v32 : List (List Int × List Int) := gset v16.2 v16.1 v31
       let v33 : Int := wrap .i64 (v16.1 + 1)
       some (.inl (v33, v32))) else
      Option.map Sum.inr (
       let v19 : Int := ((v11).length : Int)
       (spec_l34Load (v19, (v16.2, (-1)))).bind fun v20 =>
       Pu.loop (fun (v21 : (Bool × (Int × List Int))) =>
        let v22 : Int := ((v20).length : Int)
        let v23 : Bool := decide (v21.2.1 < v22)
        bif v23 then (
         (gin (v20).length v21.2.1).bind fun _ =>
         (gget 0 v20 v21.2.1).bind fun v25 =>
         let v26 : Bool := decide (1 < v25)
         bif v26 then (
          (gin (v21.2.2).length v21.2.1).bind fun _ =>
          (gget 0 v21.2.2 v21.2.1).bind fun v28 =>
          (gin (v20).length v21.2.1).bind fun _ =>
          (gget 0 v20 v21.2.1).bind fun v30 =>
          let v31 : Int := wrap .i64 (v30 - 1)
          let v32 : Int := wrap .i64 (4 * v31)
          let v33 : Int := wrap .i64 (v28 + v32)
          (gin (v21.2.2).length v21.2.1).bind fun _ =>
          (gget 0 v21.2.2 v21.2.1).bind fun v35 =>
          let v36 : Int := v33
          let v37 : List Int := gset v21.2.2 v21.2.1 v36
          let v38 : Int := wrap .i64 (v21.2.1 + 1)
          some (.inl (true, (v38, v37)))) else
         let v27 : Int := wrap .i64 (v21.2.1 + 1)
         some (.inl (v21.1, (v27, v21.2.2)))) else
        Option.map Sum.inr (
         let v24 : Bool := !v21.1
         bif v24 then (
          Option.map Sum.inr (
           some (v16.2, true))) else
         let v25 : Int := wrap .i64 (v14.1 + 1)
         some (.inl (v25, (v16.2, v21.2.2))))) (false, (0, v14.2.2)))) (0, v14.2.1)) else
    Option.map Sum.inr (
     some (([] : List (List Int × List Int)), false))) (1, (v7, v13)))) 0
noncomputable def impl_RouteAll (v0 : ((Int × (Int × (Int × Int))) × (List Int × List (Int × ((Int × Int) × List (Int × Int)))))) : Option (List (List Int × List Int) × Bool) :=
 (impl_DeviceOk v0.1).bind fun v1 =>
 let v2 : Bool := !v1
 bif v2 then (
  some (([] : List (List Int × List Int)), false)) else
 let v3 : Int := ((v0.2.1).length : Int)
 (impl_ConnsOk (v3, v0.2.2)).bind fun v4 =>
 let v5 : Bool := !v4
 bif v5 then (
  some (([] : List (List Int × List Int)), false)) else
 let v6 : Int := ((v0.2.2).length : Int)
 Pu.loop (fun (v7 : (List Int × (List (List Int) × Int))) =>
  let v8 : Bool := decide (v7.2.2 < v6)
  bif v8 then (
   (gget (0, ((0, 0), [])) v0.2.2 v7.2.2).bind fun v9 =>
   (impl_SourceNode (v0.1, (v0.2.1, v9))).bind fun v10 =>
   (impl_SinkNodes (v0.1, (v0.2.1, v9))).bind fun v11 =>
   let v12 : Bool := decide (v10 < 0)
   bif v12 then (
    Option.map Sum.inr (
     some (([] : List (List Int × List Int)), false))) else
   (gnil true v11).bind fun v13 =>
   bif v13 then (
    Option.map Sum.inr (
     some (([] : List (List Int × List Int)), false))) else
   let v14 : List Int := [v10]
   (gapp 8 v7.1 v14).bind fun v15 =>
   let v16 : List (List Int) := [v11]
   (gapp 24 v7.2.1 v16).bind fun v17 =>
   let v18 : Int := wrap .i64 (v7.2.2 + 1)
   some (.inl (v15, (v17, v18)))) else
  Option.map Sum.inr (
   (impl_graphOf v0.1).bind fun v9 =>
   (impl_routeNodes v0.1).bind fun v10 =>
   (gmake 8 (0 : Int) v10).bind fun v11 =>
   let v12 : Int := ((v0.2.2).length : Int)
   (gmake 48 (([], []) : (List Int × List Int)) v12).bind fun v13 =>
   Pu.loop (fun (v14 : (Int × (List Int × List (List Int × List Int)))) =>
    let v15 : Bool := decide (v14.1 ≤ 12)
    bif v15 then (
     let v16 : Int := ((v0.2.2).length : Int)
     Pu.loop (fun (v17 : (Int × List (List Int × List Int))) =>
      let v18 : Bool := decide (v17.1 < v16)
      bif v18 then (
       (gslice v17.2 0 v17.1).bind fun v19 =>
       let v20 : Int := wrap .i64 (v17.1 + 1)
       (gslice v17.2 v20 ((v17.2).length : Int)).bind fun v21 =>
       (gapp 48 ([] : List (List Int × List Int)) v19).bind fun v22 =>
       (gapp 48 v22 v21).bind fun v23 =>
       let v24 : Int := ((v14.2.1).length : Int)
       let v25 : Int := wrap .i64 (5 * v14.1)
       (gin (v7.1).length v17.1).bind fun _ =>
       (gget 0 v7.1 v17.1).bind fun v27 =>
       (gin (v7.2.1).length v17.1).bind fun _ =>
       (gget [] v7.2.1 v17.1).bind fun v29 =>
       (impl_usage (v24, v23)).bind fun v30 =>
       (impl_sharedCosts (v14.2.1, (v30, v25))).bind fun v31 =>
       (impl_growRoute (v9, (v31, (v27, v29)))).bind fun v32 =>
       let v33 : Bool := !v32.2
       bif v33 then (
        Option.map Sum.inr (
         Option.map Sum.inr (
          some (([] : List (List Int × List Int)), false)))) else
       (gin (v17.2).length v17.1).bind fun _ =>
       (gget ([], []) v17.2 v17.1).bind fun v35 =>
       let v36 : (List Int × List Int) := v32.1
       let v37 : List (List Int × List Int) := gset v17.2 v17.1 v36
       let v38 : Int := wrap .i64 (v17.1 + 1)
       some (.inl (v38, v37))) else
      Option.map Sum.inr (
       let v19 : Int := ((v14.2.1).length : Int)
       (impl_usage (v19, v17.2)).bind fun v20 =>
       let v21 : Int := ((v20).length : Int)
       Pu.loop (fun (v22 : (Bool × (Int × List Int))) =>
        let v23 : Bool := decide (v22.2.1 < v21)
        bif v23 then (
         (gin (v20).length v22.2.1).bind fun _ =>
         (gget 0 v20 v22.2.1).bind fun v25 =>
         let v26 : Bool := decide (1 < v25)
         bif v26 then (
          (gin (v22.2.2).length v22.2.1).bind fun _ =>
          (gget 0 v22.2.2 v22.2.1).bind fun v28 =>
          let v29 : Int := wrap .i64 (v25 - 1)
          let v30 : Int := wrap .i64 (4 * v29)
          let v31 : Int := wrap .i64 (v28 + v30)
          (gin (v22.2.2).length v22.2.1).bind fun _ =>
          (gget 0 v22.2.2 v22.2.1).bind fun v33 =>
          let v34 : Int := v31
          let v35 : List Int := gset v22.2.2 v22.2.1 v34
          let v36 : Int := wrap .i64 (v22.2.1 + 1)
          some (.inl (true, (v36, v35)))) else
         let v27 : Int := wrap .i64 (v22.2.1 + 1)
         some (.inl (v22.1, (v27, v22.2.2)))) else
        Option.map Sum.inr (
         let v24 : Bool := !v22.1
         bif v24 then (
          Option.map Sum.inr (
           some (v17.2, true))) else
         let v25 : Int := wrap .i64 (v14.1 + 1)
         some (.inl (v25, (v22.2.2, v17.2))))) (false, (0, v14.2.1)))) (0, v14.2.2)) else
    Option.map Sum.inr (
     some (([] : List (List Int × List Int)), false))) (1, (v11, v13)))) (([] : List Int), (([] : List (List Int)), 0))
noncomputable def laws_FnExactRouteAll (v0 : ((Int × (Int × (Int × Int))) × (List Int × List (Int × ((Int × Int) × List (Int × Int)))))) : Option Bool :=
 let v1 : Int := ((v0.2.1).length : Int)
 let v2 : Bool := decide (1048576 < v1)
 bif v2 then (
  some true) else
 (laws_szConnS (v0.2.2, 1048576)).bind fun v3 =>
 let v4 : Bool := decide (v3 < 0)
 bif v4 then (
  some true) else
 (laws_toDevice v0.1).bind fun v5 =>
 (laws_toIntS v0.2.1).bind fun v6 =>
 (laws_toConnS v0.2.2).bind fun v7 =>
 (spec_RouteAll (v5, (v6, v7))).bind fun v8 =>
 (laws_toIntS v0.2.1).bind fun v9 =>
 (laws_toConnS v0.2.2).bind fun v10 =>
 (laws_toDevice v0.1).bind fun v11 =>
 (impl_RouteAll (v11, (v9, v10))).bind fun v12 =>
 (laws_eqRouteS (v12.1, v8.1)).bind fun v13 =>
 let v14 : Bool := !v13
 bif v14 then (
  some false) else
 let v15 : Bool := (true ^^ (v12.2 == v8.2))
 bif v15 then (
  some false) else
 (laws_toIntS v0.2.1).bind fun v16 =>
 (laws_eqIntS (v9, v16)).bind fun v17 =>
 let v18 : Bool := !v17
 bif v18 then (
  some false) else
 (laws_toConnS v0.2.2).bind fun v19 =>
 (laws_eqConnS (v10, v19)).bind fun v20 =>
 let v21 : Bool := !v20
 bif v21 then (
  some false) else
 (laws_markIntS (v9, 1)).bind fun v22 =>
 (laws_markConnS (v10, v22.1)).bind fun v23 =>
 let v24 : Bool := decide (v23.1 < 0)
 bif v24 then (
  some false) else
 (laws_eqRouteS (v12.1, v8.1)).bind fun v25 =>
 let v26 : Bool := !v25
 bif v26 then (
  some false) else
 let v27 : Bool := (true ^^ (v12.2 == v8.2))
 bif v27 then (
  some false) else
 (laws_markRouteS (v12.1, 1)).bind fun v28 =>
 (laws_heldRouteS (v28.2, 1)).bind fun v29 =>
 let v30 : Bool := decide (v29 < 0)
 bif v30 then (
  some false) else
 let v31 : Bool := decide (v29 ≠ v28.1)
 bif v31 then (
  some false) else
 (laws_toDevice v0.1).bind fun v32 =>
 (laws_toIntS v0.2.1).bind fun v33 =>
 (laws_toConnS v0.2.2).bind fun v34 =>
 (impl_RouteAll (v32, (v33, v34))).bind fun v35 =>
 (laws_eqRouteS (v35.1, v8.1)).bind fun v36 =>
 let v37 : Bool := !v36
 bif v37 then (
  some false) else
 let v38 : Bool := (true ^^ (v35.2 == v8.2))
 bif v38 then (
  some false) else
 (laws_heldRouteS (v28.2, 1)).bind fun v39 =>
 let v40 : Bool := decide (v39 < 0)
 bif v40 then (
  some false) else
 let v41 : Bool := decide (v39 ≠ v28.1)
 bif v41 then (
  some false) else
 some true
end Go.Pf
