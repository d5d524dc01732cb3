/-
  Own work, printed by my tool: the readable functions.
-/
import Derived.Test.YtnlcnnmdalgibaaPu3
namespace Go.Pf
open Go Go.Pu
set_option linter.unusedVariables false
noncomputable def impl_inRange (v0 : (Int × (Int × Int))) : Option Bool :=
 let v1 : Bool := decide (v0.2.1 ≤ v0.1)
 bif v1 then (
  let v2 : Bool := decide (v0.1 ≤ v0.2.2)
  some v2) else
 some false
noncomputable def impl_hasInt (v0 : (List Int × Int)) : Option Bool :=
 let v1 : Int := ((v0.1).length : Int)
 Pu.loop (fun (v2 : Int) =>
  let v3 : Bool := decide (v2 < v1)
  bif v3 then (
   (gget 0 v0.1 v2).bind fun v4 =>
   let v5 : Bool := decide (v4 = v0.2)
   bif v5 then (
    Option.map Sum.inr (
     some true)) else
   let v6 : Int := wrap .i64 (v2 + 1)
   some (.inl v6)) else
  Option.map Sum.inr (
   some false)) 0
noncomputable def spec_l01In (v0 : (Int × (Int × Int))) : Option Bool :=
 let v1 : Bool := decide (v0.2.1 ≤ v0.1)
 bif v1 then (
  let v2 : Bool := decide (v0.1 ≤ v0.2.2)
  some v2) else
 some false
noncomputable def spec_l13Has (v0 : (List Int × Int)) : Option Bool :=
 Pu.loop (fun (v1 : Int) =>
  let v2 : Int := ((v0.1).length : Int)
  let v3 : Bool := decide (v1 < v2)
  bif v3 then (
   (gget 0 v0.1 v1).bind fun v4 =>
   let v5 : Bool := decide (v4 = v0.2)
   bif v5 then (
    Option.map Sum.inr (
     some true)) else
   let v6 : Int := wrap .i64 (v1 + 1)
   some (.inl v6)) else
  Option.map Sum.inr (
   some false)) 0
noncomputable def impl_tileKind (v0 : ((Int × (Int × (Int × Int))) × Int)) : Option Int :=
 (grem v0.2 v0.1.1).bind fun v1 =>
 (gdiv .i64 v0.2 v0.1.1).bind fun v2 =>
 let v3 : Bool := decide (v1 = 0)
 bif v3 then (
  some 0) else
 let v4 : Int := wrap .i64 (v0.1.1 - 1)
 let v5 : Bool := decide (v1 = v4)
 bif v5 then (
  some 0) else
 let v6 : Bool := decide (v2 = 0)
 bif v6 then (
  some 0) else
 let v7 : Int := wrap .i64 (v0.1.2.1 - 1)
 let v8 : Bool := decide (v2 = v7)
 bif v8 then (
  some 0) else
 let v9 : Bool := decide (v1 = v0.1.2.2.2)
 bif v9 then (
  some 2) else
 some 1
noncomputable def spec_DeviceOk (v0 : (Int × (Int × (Int × Int)))) : Option Bool :=
 (spec_l01In (v0.1, (3, 6))).bind fun v1 =>
 bif v1 then (
  (spec_l01In (v0.2.1, (3, 6))).bind fun v2 =>
  bif v2 then (
   (spec_l01In (v0.2.2.1, (1, 4))).bind fun v3 =>
   bif v3 then (
    let v4 : Bool := decide (v0.2.2.2 = (-1))
    bif v4 then (
     some true) else
    let v5 : Int := wrap .i64 (v0.1 - 2)
    (spec_l01In (v0.2.2.2, (1, v5))).bind fun v6 =>
    some v6) else
   some false) else
  some false) else
 some false
noncomputable def impl_DeviceOk (v0 : (Int × (Int × (Int × Int)))) : Option Bool :=
 (impl_inRange (v0.1, (3, 6))).bind fun v1 =>
 bif v1 then (
  (impl_inRange (v0.2.1, (3, 6))).bind fun v2 =>
  bif v2 then (
   (impl_inRange (v0.2.2.1, (1, 4))).bind fun v3 =>
   bif v3 then (
    let v4 : Bool := decide (v0.2.2.2 = (-1))
    bif v4 then (
     some true) else
    let v5 : Int := wrap .i64 (v0.1 - 2)
    (impl_inRange (v0.2.2.2, (1, v5))).bind fun v6 =>
    some v6) else
   some false) else
  some false) else
 some false
noncomputable def spec_TileKind (v0 : ((Int × (Int × (Int × Int))) × Int)) : Option Int :=
 (spec_DeviceOk v0.1).bind fun v1 =>
 let v2 : Bool := !v1
 bif v2 then (
  some (-1)) else
 let v3 : Bool := decide (v0.2 < 0)
 bif v3 then (
  some (-1)) else
 let v4 : Int := wrap .i64 (v0.1.1 * v0.1.2.1)
 let v5 : Bool := decide (v4 ≤ v0.2)
 bif v5 then (
  some (-1)) else
 (grem v0.2 v0.1.1).bind fun v6 =>
 (gdiv .i64 v0.2 v0.1.1).bind fun v7 =>
 let v8 : Bool := decide (v6 = 0)
 bif v8 then (
  some 0) else
 let v9 : Bool := decide (v7 = 0)
 bif v9 then (
  some 0) else
 let v10 : Int := wrap .i64 (v0.1.1 - 1)
 let v11 : Bool := decide (v6 = v10)
 bif v11 then (
  some 0) else
 let v12 : Int := wrap .i64 (v0.1.2.1 - 1)
 let v13 : Bool := decide (v7 = v12)
 bif v13 then (
  some 0) else
 let v14 : Bool := decide (v6 = v0.1.2.2.2)
 bif v14 then (
  some 2) else
 some 1
noncomputable def impl_TilesOf (v0 : ((Int × (Int × (Int × Int))) × Int)) : Option (List Int) :=
 (impl_DeviceOk v0.1).bind fun v1 =>
 let v2 : Bool := !v1
 bif v2 then (
  some ([] : List Int)) else
 Pu.loop (fun (v3 : (List Int × Int)) =>
  let v4 : Int := wrap .i64 (v0.1.1 * v0.1.2.1)
  let v5 : Bool := decide (v3.2 < v4)
  bif v5 then (
   (impl_tileKind (v0.1, v3.2)).bind fun v6 =>
   let v7 : Bool := decide (v6 = v0.2)
   bif v7 then (
    let v8 : List Int := [v3.2]
    (gapp 8 v3.1 v8).bind fun v9 =>
    let v10 : Int := wrap .i64 (v3.2 + 1)
    some (.inl (v9, v10))) else
   let v8 : Int := wrap .i64 (v3.2 + 1)
   some (.inl (v3.1, v8))) else
  Option.map Sum.inr (
   some v3.1)) (([] : List Int), 0)
noncomputable def impl_tileOk (v0 : ((Int × (Int × (Int × Int))) × Int)) : Option Bool :=
 (impl_DeviceOk v0.1).bind fun v1 =>
 bif v1 then (
  let v2 : Int := wrap .i64 (v0.1.1 * v0.1.2.1)
  let v3 : Int := wrap .i64 (v2 - 1)
  (impl_inRange (v0.2, (0, v3))).bind fun v4 =>
  some v4) else
 some false
noncomputable def impl_NearestFree (v0 : ((Int × (Int × (Int × Int))) × (Int × (Int × (Int × List Int))))) : Option Int :=
 (impl_DeviceOk v0.1).bind fun v1 =>
 let v2 : Bool := !v1
 bif v2 then (
  some (-1)) else
 (impl_inRange (v0.2.2.1, (0, 600))).bind fun v3 =>
 let v4 : Bool := !v3
 bif v4 then (
  some (-1)) else
 (impl_inRange (v0.2.2.2.1, (0, 600))).bind fun v5 =>
 let v6 : Bool := !v5
 bif v6 then (
  some (-1)) else
 (impl_TilesOf (v0.1, v0.2.1)).bind fun v7 =>
 let v8 : Int := ((v7).length : Int)
 Pu.loop (fun (v9 : (Int × (Int × Int))) =>
  let v10 : Bool := decide (v9.1 < v8)
  bif v10 then (
   (gin (v7).length v9.1).bind fun _ =>
   (gget 0 v7 v9.1).bind fun v12 =>
   (impl_hasInt (v0.2.2.2.2, v12)).bind fun v13 =>
   bif v13 then (
    let v14 : Int := wrap .i64 (v9.1 + 1)
    some (.inl (v14, v9.2))) else
   (grem v12 v0.1.1).bind fun v14 =>
   let v15 : Int := wrap .i64 (100 * v14)
   let v16 : Int := wrap .i64 (v15 - v0.2.2.1)
   (gdiv .i64 v12 v0.1.1).bind fun v17 =>
   let v18 : Int := wrap .i64 (100 * v17)
   let v19 : Int := wrap .i64 (v18 - v0.2.2.2.1)
   let v20 : Int := wrap .i64 (v16 * v16)
   let v21 : Int := wrap .i64 (v19 * v19)
   let v22 : Int := wrap .i64 (v20 + v21)
   let v23 : Bool := decide (v9.2.1 < 0)
   bif v23 then (
    let v24 : Int := wrap .i64 (v9.1 + 1)
    some (.inl (v24, (v12, v22)))) else
   let v24 : Bool := decide (v22 < v9.2.2)
   bif v24 then (
    let v25 : Int := wrap .i64 (v9.1 + 1)
    some (.inl (v25, (v12, v22)))) else
   let v25 : Int := wrap .i64 (v9.1 + 1)
   some (.inl (v25, v9.2))) else
  Option.map Sum.inr (
   some v9.2.1)) (0, ((-1), 0))
noncomputable def impl_TileKind (v0 : ((Int × (Int × (Int × Int))) × Int)) : Option Int :=
 (impl_tileOk v0).bind fun v1 =>
 let v2 : Bool := !v1
 bif v2 then (
  some (-1)) else
 (impl_tileKind v0).bind fun v3 =>
 some v3
noncomputable def spec_TilesOf (v0 : ((Int × (Int × (Int × Int))) × Int)) : Option (List Int) :=
 (spec_DeviceOk v0.1).bind fun v1 =>
 let v2 : Bool := !v1
 bif v2 then (
  some ([] : List Int)) else
 Pu.loop (fun (v3 : (Int × List Int)) =>
  let v4 : Int := wrap .i64 (v0.1.1 * v0.1.2.1)
  let v5 : Bool := decide (v3.1 < v4)
  bif v5 then (
   (spec_TileKind (v0.1, v3.1)).bind fun v6 =>
   let v7 : Bool := decide (v6 = v0.2)
   bif v7 then (
    let v8 : List Int := [v3.1]
    (gapp 8 v3.2 v8).bind fun v9 =>
    let v10 : Int := wrap .i64 (v3.1 + 1)
    some (.inl (v10, v9))) else
   let v8 : Int := wrap .i64 (v3.1 + 1)
   some (.inl (v8, v3.2))) else
  Option.map Sum.inr (
   some v3.2)) (0, ([] : List Int))
noncomputable def spec_NearestFree (v0 : ((Int × (Int × (Int × Int))) × (Int × (Int × (Int × List Int))))) : Option Int :=
 (spec_l01In (v0.2.2.1, (0, 600))).bind fun v1 =>
 let v2 : Bool := !v1
 bif v2 then (
  some (-1)) else
 (spec_l01In (v0.2.2.2.1, (0, 600))).bind fun v3 =>
 let v4 : Bool := !v3
 bif v4 then (
  some (-1)) else
 (spec_TilesOf (v0.1, v0.2.1)).bind fun v5 =>
 Pu.loop (fun (v6 : (Int × (Int × Int))) =>
  let v7 : Int := ((v5).length : Int)
  let v8 : Bool := decide (v6.2.2 < v7)
  bif v8 then (
   (gin (v5).length v6.2.2).bind fun _ =>
   (gget 0 v5 v6.2.2).bind fun v10 =>
   (grem v10 v0.1.1).bind fun v11 =>
   let v12 : Int := wrap .i64 (100 * v11)
   let v13 : Int := wrap .i64 (v12 - v0.2.2.1)
   (gin (v5).length v6.2.2).bind fun _ =>
   (gget 0 v5 v6.2.2).bind fun v15 =>
   (gdiv .i64 v15 v0.1.1).bind fun v16 =>
   let v17 : Int := wrap .i64 (100 * v16)
   let v18 : Int := wrap .i64 (v17 - v0.2.2.2.1)
   let v19 : Int := wrap .i64 (v13 * v13)
   let v20 : Int := wrap .i64 (v18 * v18)
   let v21 : Int := wrap .i64 (v19 + v20)
   (gin (v5).length v6.2.2).bind fun _ =>
   (gget 0 v5 v6.2.2).bind fun v23 =>
   (spec_l13Has (v0.2.2.2.2, v23)).bind fun v24 =>
   let v25 : Bool := !v24
   bif v25 then (
    let v26 : Bool := decide (v6.1 < 0)
    bif v26 then (
     (gin (v5).length v6.2.2).bind fun _ =>
     (gget 0 v5 v6.2.2).bind fun v28 =>
     let v29 : Int := wrap .i64 (v6.2.2 + 1)
     some (.inl (v28, (v21, v29)))) else
    let v27 : Bool := decide (v21 < v6.2.1)
    bif v27 then (
     (gin (v5).length v6.2.2).bind fun _ =>
     (gget 0 v5 v6.2.2).bind fun v29 =>
     let v30 : Int := wrap .i64 (v6.2.2 + 1)
     some (.inl (v29, (v21, v30)))) else
    let v28 : Int := wrap .i64 (v6.2.2 + 1)
    some (.inl (v6.1, (v6.2.1, v28)))) else
   let v26 : Int := wrap .i64 (v6.2.2 + 1)
   some (.inl (v6.1, (v6.2.1, v26)))) else
  Option.map Sum.inr (
   some v6.1)) ((-1), (0, 0))
noncomputable def laws_big (v0 : List Int) : Option Bool :=
 let v1 : Int := ((v0).length : Int)
 let v2 : Bool := decide (1048576 < v1)
 some v2
noncomputable def impl_SampleDevice (v0 : Unit) : Option (Int × (Int × (Int × Int))) :=
 some (5, (5, (4, 2)))
noncomputable def laws_has (v0 : (List Int × Int)) : Option Bool :=
 Pu.loop (fun (v1 : Int) =>
  let v2 : Int := ((v0.1).length : Int)
  let v3 : Bool := decide (v1 < v2)
  bif v3 then (
   (gget 0 v0.1 v1).bind fun v4 =>
   let v5 : Bool := decide (v4 = v0.2)
   bif v5 then (
    Option.map Sum.inr (
     some true)) else
   let v6 : Int := wrap .i64 (v1 + 1)
   some (.inl v6)) else
  Option.map Sum.inr (
   some false)) 0
noncomputable def spec_l01New (v0 : List Int) : Option (Int × Int) :=
 let v1 : Int := ((v0).length : Int)
 let v2 : Int := wrap .i64 (33117 + v1)
 joinO (
  Pu.loop (fun (v3 : (Int × Int)) =>
   let v4 : Int := ((v0).length : Int)
   let v5 : Bool := decide (v3.2 < v4)
   bif v5 then (
    let v6 : Bool := decide (v3.2 < 4000)
    bif v6 then (
     let v7 : Int := wrap .i64 (v3.1 * 131)
     (gget 0 v0 v3.2).bind fun v8 =>
     let v9 : Int := wrap .i64 v8
     let v10 : Int := wrap .i64 (v7 + v9)
     let v11 : Int := wrap .i64 (v10 + 7)
     let v12 : Int := gand .i64 v11 1073741823
     let v13 : Int := wrap .i64 (v3.2 + 1)
     some (.inl (v12, v13))) else
    Option.map Sum.inr (
     some (.inl v3.1))) else
   Option.map Sum.inr (
    some (.inl v3.1))) (v2, 0)) (fun (v3 : Int) =>
  some (0, v3))
noncomputable def spec_l01Byte (v0 : (List Int × (Int × Int))) : Option (Int × (Int × Int)) :=
 let v1 : Int := wrap .i64 (v0.2.2 * 6364136223846793005)
 let v2 : Int := wrap .i64 (v1 + 1442695040888963407)
 (gshift false .i64 v2 33).bind fun v3 =>
 (gshift false .i64 v2 45).bind fun v4 =>
 let v5 : Int := gxor .i64 v3 v4
 let v6 : Int := gand .i64 v5 255
 let v7 : Int := ((v0.1).length : Int)
 let v8 : Bool := decide (v0.2.1 < v7)
 bif v8 then (
  (gget 0 v0.1 v0.2.1).bind fun v9 =>
  let v10 : Int := wrap .i64 v9
  let v11 : Int := wrap .i64 (v6 + v10)
  let v12 : Int := gand .i64 v11 255
  let v13 : Int := wrap .i64 (v0.2.1 + 1)
  some (v12, (v13, v2))) else
 some (v6, (v0.2.1, v2))
noncomputable def spec_l01Below (v0 : ((List Int × (Int × Int)) × Int)) : Option (Int × (Int × Int)) :=
 let v1 : Bool := decide (v0.2 ≤ 0)
 bif v1 then (
  some (0, v0.1.2)) else
 let v2 : Bool := decide (v0.2 ≤ 256)
 bif v2 then (
  (spec_l01Byte v0.1).bind fun v3 =>
  (grem v3.1 v0.2).bind fun v4 =>
  some (v4, v3.2)) else
 (spec_l01Byte v0.1).bind fun v3 =>
 (spec_l01Byte (v0.1.1, v3.2)).bind fun v4 =>
 (spec_l01Byte (v0.1.1, v4.2)).bind fun v5 =>
 (spec_l01Byte (v0.1.1, v5.2)).bind fun v6 =>
 let v7 : Int := wrap .i64 (v3.1 * 16777216)
 let v8 : Int := wrap .i64 (v4.1 * 65536)
 let v9 : Int := wrap .i64 (v7 + v8)
 let v10 : Int := wrap .i64 (v5.1 * 256)
 let v11 : Int := wrap .i64 (v9 + v10)
 let v12 : Int := wrap .i64 (v11 + v6.1)
 (grem v12 v0.2).bind fun v13 =>
 some (v13, v6.2)
noncomputable def spec_l01PickInt (v0 : ((List Int × (Int × Int)) × List Int)) : Option (Int × (Int × Int)) :=
 let v1 : Int := ((v0.2).length : Int)
 (spec_l01Below (v0.1, v1)).bind fun v2 =>
 (gget 0 v0.2 v2.1).bind fun v3 =>
 some (v3, v2.2)
noncomputable def spec_l01Once (v0 : ((List Int × (Int × Int)) × Int)) : Option (Bool × (Int × Int)) :=
 (spec_l01Below v0).bind fun v1 =>
 let v2 : Bool := decide (v1.1 = 0)
 some (v2, v1.2)
noncomputable def spec_l01Place (v0 : ((List Int × (Int × Int)) × Int)) : Option (Int × (Int × Int)) :=
 (spec_l01Once (v0.1, 15)).bind fun v1 =>
 bif v1.1 then (
  let v2 : Int := wrap .i64 (v0.2 + 1)
  let v3 : List Int := [(-1), v0.2, v2, 9223372036854775807, (-9223372036854775808)]
  (spec_l01PickInt ((v0.1.1, v1.2), v3)).bind fun v4 =>
  some v4) else
 (spec_l01Below ((v0.1.1, v1.2), v0.2)).bind fun v2 =>
 some v2
noncomputable def spec_l26Device (v0 : (List Int × (Int × Int))) : Option ((Int × (Int × (Int × Int))) × (Int × Int)) :=
 (spec_l01Below (v0, 3)).bind fun v1 =>
 let v2 : Int := wrap .i64 (3 + v1.1)
 (spec_l01Below ((v0.1, v1.2), 3)).bind fun v3 =>
 let v4 : Int := wrap .i64 (3 + v3.1)
 (spec_l01Below ((v0.1, v3.2), 4)).bind fun v5 =>
 let v6 : Int := wrap .i64 (1 + v5.1)
 (spec_l01Once ((v0.1, v5.2), 2)).bind fun v7 =>
 bif v7.1 then (
  let v8 : Int := wrap .i64 (v2 - 2)
  (spec_l01Below ((v0.1, v7.2), v8)).bind fun v9 =>
  let v10 : Int := wrap .i64 (1 + v9.1)
  some ((v2, (v4, (v6, v10))), v9.2)) else
 some ((v2, (v4, (v6, (-1)))), v7.2)
noncomputable def spec_l26Any (v0 : (List Int × (Int × Int))) : Option ((Int × (Int × (Int × Int))) × (Int × Int)) :=
 (spec_l26Device v0).bind fun v1 =>
 (spec_l01Below ((v0.1, v1.2), 16)).bind fun v2 =>
 let v3 : Bool := decide (v2.1 = 0)
 bif v3 then (
  let v4 : List Int := [(-1), 0, 2, 6, 7, 9223372036854775807]
  (spec_l01PickInt ((v0.1, v2.2), v4)).bind fun v5 =>
  some ((v5.1, v1.1.2), v5.2)) else
 let v4 : Bool := decide (v2.1 = 1)
 bif v4 then (
  let v5 : List Int := [(-1), 0, 2, 6, 7, 9223372036854775807]
  (spec_l01PickInt ((v0.1, v2.2), v5)).bind fun v6 =>
  some ((v1.1.1, (v6.1, v1.1.2.2)), v6.2)) else
 let v5 : Bool := decide (v2.1 = 2)
 bif v5 then (
  let v6 : List Int := [(-1), 0, 5]
  (spec_l01PickInt ((v0.1, v2.2), v6)).bind fun v7 =>
  some ((v1.1.1, (v1.1.2.1, (v7.1, v1.1.2.2.2))), v7.2)) else
 let v6 : Bool := decide (v2.1 = 3)
 bif v6 then (
  let v7 : List Int := [(-2), 0, 5, (-9223372036854775808)]
  (spec_l01PickInt ((v0.1, v2.2), v7)).bind fun v8 =>
  some ((v1.1.1, (v1.1.2.1, (v1.1.2.2.1, v8.1))), v8.2)) else
 some (v1.1, v2.2)
noncomputable def spec_DrawNearestFree (v0 : List Int) : Option ((Int × (Int × (Int × Int))) × (Int × (Int × (Int × List Int)))) :=
 (spec_l01New v0).bind fun v1 =>
 (spec_l26Any (v0, v1)).bind fun v2 =>
 let v3 : List Int := [0, 1, 1, 1, 2, 3]
 (spec_l01PickInt ((v0, v2.2), v3)).bind fun v4 =>
 (spec_l01Place ((v0, v4.2), 400)).bind fun v5 =>
 (spec_l01Place ((v0, v5.2), 400)).bind fun v6 =>
 (spec_l01Below ((v0, v6.2), 8)).bind fun v7 =>
 Pu.loop (fun (v8 : (Int × (Int × (Int × List Int)))) =>
  let v9 : Bool := decide (0 < v8.1)
  bif v9 then (
   (spec_l01Below ((v0, (v8.2.1, v8.2.2.1)), 20)).bind fun v10 =>
   let v11 : List Int := [v10.1]
   (gapp 8 v8.2.2.2 v11).bind fun v12 =>
   let v13 : Int := wrap .i64 (v8.1 - 1)
   some (.inl (v13, (v10.2.1, (v10.2.2, v12))))) else
  Option.map Sum.inr (
   some (v2.1, (v4.1, (v5.1, (v6.1, v8.2.2.2)))))) (v7.1, (v7.2.1, (v7.2.2, ([] : List Int))))
noncomputable def laws_FnNearest (v0 : List Int) : Option Bool :=
 (laws_big v0).bind fun v1 =>
 bif v1 then (
  some true) else
 (spec_DrawNearestFree v0).bind fun v2 =>
 (spec_NearestFree v2).bind fun v3 =>
 (impl_NearestFree v2).bind fun v4 =>
 let v5 : Bool := decide (v3 < 0)
 bif v5 then (
  let v6 : Bool := decide (v4 = (-1))
  bif v6 then (
   (impl_SampleDevice ()).bind fun v7 =>
   (impl_NearestFree (v7, (0, (0, (0, ([] : List Int)))))).bind fun v8 =>
   let v9 : Bool := decide (v8 = 0)
   some v9) else
  some false) else
 let v6 : Bool := decide (v4 < 0)
 bif v6 then (
  some false) else
 (laws_has (v2.2.2.2.2, v4)).bind fun v7 =>
 bif v7 then (
  some false) else
 (impl_TileKind (v2.1, v4)).bind fun v8 =>
 let v9 : Bool := decide (v8 ≠ v2.2.1)
 bif v9 then (
  some false) else
 (grem v4 v2.1.1).bind fun v10 =>
 let v11 : Int := wrap .i64 (100 * v10)
 let v12 : Int := wrap .i64 (v11 - v2.2.2.1)
 (grem v4 v2.1.1).bind fun v13 =>
 let v14 : Int := wrap .i64 (100 * v13)
 let v15 : Int := wrap .i64 (v14 - v2.2.2.1)
 let v16 : Int := wrap .i64 (v12 * v15)
 (gdiv .i64 v4 v2.1.1).bind fun v17 =>
 let v18 : Int := wrap .i64 (100 * v17)
 let v19 : Int := wrap .i64 (v18 - v2.2.2.2.1)
 (gdiv .i64 v4 v2.1.1).bind fun v20 =>
 let v21 : Int := wrap .i64 (100 * v20)
 let v22 : Int := wrap .i64 (v21 - v2.2.2.2.1)
 let v23 : Int := wrap .i64 (v19 * v22)
 let v24 : Int := wrap .i64 (v16 + v23)
 (spec_TilesOf (v2.1, v2.2.1)).bind fun v25 =>
 Pu.loop (fun (v26 : Int) =>
  let v27 : Int := ((v25).length : Int)
  let v28 : Bool := decide (v26 < v27)
  bif v28 then (
   (gin (v25).length v26).bind fun _ =>
   (gget 0 v25 v26).bind fun v30 =>
   (laws_has (v2.2.2.2.2, v30)).bind fun v31 =>
   let v32 : Bool := !v31
   bif v32 then (
    (grem v30 v2.1.1).bind fun v33 =>
    let v34 : Int := wrap .i64 (100 * v33)
    let v35 : Int := wrap .i64 (v34 - v2.2.2.1)
    (grem v30 v2.1.1).bind fun v36 =>
    let v37 : Int := wrap .i64 (100 * v36)
    let v38 : Int := wrap .i64 (v37 - v2.2.2.1)
    let v39 : Int := wrap .i64 (v35 * v38)
    (gdiv .i64 v30 v2.1.1).bind fun v40 =>
    let v41 : Int := wrap .i64 (100 * v40)
    let v42 : Int := wrap .i64 (v41 - v2.2.2.2.1)
    (gdiv .i64 v30 v2.1.1).bind fun v43 =>
    let v44 : Int := wrap .i64 (100 * v43)
    let v45 : Int := wrap .i64 (v44 - v2.2.2.2.1)
    let v46 : Int := wrap .i64 (v42 * v45)
    let v47 : Int := wrap .i64 (v39 + v46)
    let v48 : Bool := decide (v47 < v24)
    bif v48 then (
     Option.map Sum.inr (
      some false)) else
    let v49 : Int := wrap .i64 (v26 + 1)
    some (.inl v49)) else
   let v33 : Int := wrap .i64 (v26 + 1)
   some (.inl v33)) else
  Option.map Sum.inr (
   some true)) 0
end Go.Pf
