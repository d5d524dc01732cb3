/-
  Own work, printed by my tool: the readable functions.
-/
import Derived.Test.YtlfmlhoajobafaaPu2
namespace Go.Pf
open Go Go.Pu
set_option linter.unusedVariables false
noncomputable def spec_PathTo (v0 : ((List Int × List Int) × Int)) : Option (List Int) :=
  let v1 : Int := ((v0.1.1).length : Int)
  let v2 : Int := ((v0.1.2).length : Int)
  let v3 : Bool := decide (v1 ≠ v2)
  bif v3 then (
    some ([] : List Int)) else
  let v4 : Bool := decide (v0.2 < 0)
  bif v4 then (
    some ([] : List Int)) else
  let v5 : Int := ((v0.1.1).length : Int)
  let v6 : Bool := decide (v5 ≤ v0.2)
  bif v6 then (
    some ([] : List Int)) else
  (gget 0 v0.1.1 v0.2).bind fun v7 =>
  let v8 : List Int := [v7]
  Pu.loop (fun (v9 : (Int × List Int)) =>
    let v10 : Bool := decide (0 < v9.1)
    bif v10 then (
      (gget 0 v0.1.2 v9.1).bind fun v11 =>
      let v12 : Bool := decide (v11 < 0)
      bif v12 then (
        Option.map Sum.inr (
          some ([] : List Int))) else
      (gget 0 v0.1.2 v9.1).bind fun v13 =>
      let v14 : Bool := decide (v9.1 ≤ v13)
      bif v14 then (
        Option.map Sum.inr (
          some ([] : List Int))) else
      (gget 0 v0.1.2 v9.1).bind fun v15 =>
      (gget 0 v0.1.1 v15).bind fun v16 =>
      let v17 : List Int := [v16]
      (gapp 8 v9.2 v17).bind fun v18 =>
      some (.inl (v15, v18))) else
    Option.map Sum.inr (
      let v11 : Int := ((v9.2).length : Int)
      let v12 : Int := wrap .i64 (v11 - 1)
      Pu.loop (fun (v13 : (Int × List Int)) =>
        let v14 : Bool := decide (0 ≤ v13.1)
        bif v14 then (
          (gin (v9.2).length v13.1).bind fun _ =>
          (gget 0 v9.2 v13.1).bind fun v16 =>
          let v17 : List Int := [v16]
          (gapp 8 v13.2 v17).bind fun v18 =>
          let v19 : Int := wrap .i64 (v13.1 - 1)
          some (.inl (v19, v18))) else
        Option.map Sum.inr (
          some v13.2)) (v12, ([] : List Int)))) (v0.2, v8)
noncomputable def laws_eqIntS (v0 : (List Int × List Int)) : Option Bool :=
  let v1 : Int := ((v0.1).length : Int)
  let v2 : Int := ((v0.2).length : Int)
  let v3 : Bool := decide (v1 ≠ v2)
  bif v3 then (
    some false) else
  Pu.loop (fun (v4 : Int) =>
    let v5 : Int := ((v0.1).length : Int)
    let v6 : Bool := decide (v4 < v5)
    bif v6 then (
      (gget 0 v0.1 v4).bind fun v7 =>
      (gget 0 v0.2 v4).bind fun v8 =>
      let v9 : Bool := decide (v7 ≠ v8)
      bif v9 then (
        Option.map Sum.inr (
          some false)) else
      let v10 : Int := wrap .i64 (v4 + 1)
      some (.inl v10)) else
    Option.map Sum.inr (
      some true)) 0
noncomputable def laws_markIntS (v0 : (List Int × Int)) : Option (Int × List Int) :=
  Pu.loop (fun (v1 : (Int × (Int × List Int))) =>
    let v2 : Int := ((v1.2.2).length : Int)
    let v3 : Bool := decide (v1.2.1 < v2)
    bif v3 then (
      (gin (v1.2.2).length v1.2.1).bind fun _ =>
      (gget 0 v1.2.2 v1.2.1).bind fun v5 =>
      let v6 : Int := v1.1
      let v7 : List Int := gset v1.2.2 v1.2.1 v6
      let v8 : Int := wrap .i64 (v1.1 + 1)
      let v9 : Int := wrap .i64 (v1.2.1 + 1)
      some (.inl (v8, (v9, v7)))) else
    Option.map Sum.inr (
      some (v1.1, v1.2.2))) (v0.2, (0, v0.1))
noncomputable def laws_heldIntS (v0 : (List Int × Int)) : Option Int :=
  Pu.loop (fun (v1 : (Int × Int)) =>
    let v2 : Int := ((v0.1).length : Int)
    let v3 : Bool := decide (v1.2 < v2)
    bif v3 then (
      (gget 0 v0.1 v1.2).bind fun v4 =>
      let v5 : Bool := decide (v4 ≠ v1.1)
      bif v5 then (
        Option.map Sum.inr (
          some (-1))) else
      let v6 : Int := wrap .i64 (v1.1 + 1)
      let v7 : Int := wrap .i64 (v1.2 + 1)
      some (.inl (v6, v7))) else
    Option.map Sum.inr (
      some v1.1)) (v0.2, 0)
noncomputable def laws_toDevice (v0 : (Int × (Int × (Int × Int)))) : Option (Int × (Int × (Int × Int))) :=
  some v0
noncomputable def laws_toIntS (v0 : List Int) : Option (List Int) :=
  let v1 : Int := ((v0).length : Int)
  (gmake 8 (0 : Int) v1).bind fun v2 =>
  Pu.loop (fun (v3 : (Int × List Int)) =>
    let v4 : Int := ((v0).length : Int)
    let v5 : Bool := decide (v3.1 < v4)
    bif v5 then (
      (gget 0 v0 v3.1).bind fun v6 =>
      (gin (v3.2).length v3.1).bind fun _ =>
      (gget 0 v3.2 v3.1).bind fun v8 =>
      let v9 : Int := v6
      let v10 : List Int := gset v3.2 v3.1 v9
      let v11 : Int := wrap .i64 (v3.1 + 1)
      some (.inl (v11, v10))) else
    Option.map Sum.inr (
      some v3.2)) (0, v2)
noncomputable def laws_markPinS (v0 : (List (Int × Int) × Int)) : Option (Int × List (Int × Int)) :=
  Pu.loop (fun (v1 : (Int × (Int × List (Int × Int)))) =>
    let v2 : Int := ((v1.2.2).length : Int)
    let v3 : Bool := decide (v1.2.1 < v2)
    bif v3 then (
      (gin (v1.2.2).length v1.2.1).bind fun _ =>
      (gget (0, 0) v1.2.2 v1.2.1).bind fun v5 =>
      let v6 : (Int × Int) := (v1.1, v5.2)
      let v7 : List (Int × Int) := gset v1.2.2 v1.2.1 v6
      let v8 : Int := wrap .i64 (v1.1 + 1)
      (gin (v7).length v1.2.1).bind fun _ =>
      (gget (0, 0) v7 v1.2.1).bind fun v10 =>
      let v11 : (Int × Int) := (v10.1, v8)
      let v12 : List (Int × Int) := gset v7 v1.2.1 v11
      let v13 : Int := wrap .i64 (v8 + 1)
      let v14 : Int := wrap .i64 (v1.2.1 + 1)
      some (.inl (v13, (v14, v12)))) else
    Option.map Sum.inr (
      some (v1.1, v1.2.2))) (v0.2, (0, v0.1))
noncomputable def laws_szIntS (v0 : (List Int × Int)) : Option Int :=
  let v1 : Int := ((v0.1).length : Int)
  let v2 : Int := wrap .i64 (v0.2 - v1)
  let v3 : Bool := decide (v2 < 0)
  bif v3 then (
    some (-1)) else
  some v2
noncomputable def impl_inRange (v0 : (Int × (Int × Int))) : Option Bool :=
  let v1 : Bool := decide (v0.2.1 ≤ v0.1)
  bif v1 then (
    let v2 : Bool := decide (v0.1 ≤ v0.2.2)
    some v2) else
  some false
noncomputable def spec_BlockTile (v0 : Int) : Option Int :=
  let v1 : Bool := decide (v0 = 0)
  bif v1 then (
    bif v1 then (
      some 0) else
    let v2 : Bool := decide (v0 = 2)
    bif v2 then (
      some 2) else
    let v3 : Bool := decide (v0 = 3)
    bif v3 then (
      some 1) else
    some (-1)) else
  let v2 : Bool := decide (v0 = 1)
  bif v2 then (
    some 0) else
  let v3 : Bool := decide (v0 = 2)
  bif v3 then (
    some 2) else
  let v4 : Bool := decide (v0 = 3)
  bif v4 then (
    some 1) else
  some (-1)
noncomputable def impl_BlockTile (v0 : Int) : Option Int :=
  let v1 : Bool := decide (v0 = 0)
  bif v1 then (
    bif v1 then (
      some 0) else
    let v2 : Bool := decide (v0 = 2)
    bif v2 then (
      some 2) else
    let v3 : Bool := decide (v0 = 3)
    bif v3 then (
      some 1) else
    some (-1)) else
  let v2 : Bool := decide (v0 = 1)
  bif v2 then (
    some 0) else
  let v3 : Bool := decide (v0 = 2)
  bif v3 then (
    some 2) else
  let v4 : Bool := decide (v0 = 3)
  bif v4 then (
    some 1) else
  some (-1)
noncomputable def impl_hasInt (v0 : (List Int × Int)) : Option Bool :=
  let v1 : Int := ((v0.1).length : Int)
  Pu.loop (fun (v2 : Int) =>
    let v3 : Bool := decide (v2 < v1)
    bif v3 then (
      (gget 0 v0.1 v2).bind fun v4 =>
      let v5 : Bool := decide (v4 = v0.2)
      bif v5 then (
        Option.map Sum.inr (
          some true)) else
      let v6 : Int := wrap .i64 (v2 + 1)
      some (.inl v6)) else
    Option.map Sum.inr (
      some false)) 0
noncomputable def spec_l01In (v0 : (Int × (Int × Int))) : Option Bool :=
  let v1 : Bool := decide (v0.2.1 ≤ v0.1)
  bif v1 then (
    let v2 : Bool := decide (v0.1 ≤ v0.2.2)
    some v2) else
  some false
noncomputable def spec_l13Has (v0 : (List Int × Int)) : Option Bool :=
  Pu.loop (fun (v1 : Int) =>
    let v2 : Int := ((v0.1).length : Int)
    let v3 : Bool := decide (v1 < v2)
    bif v3 then (
      (gget 0 v0.1 v1).bind fun v4 =>
      let v5 : Bool := decide (v4 = v0.2)
      bif v5 then (
        Option.map Sum.inr (
          some true)) else
      let v6 : Int := wrap .i64 (v1 + 1)
      some (.inl v6)) else
    Option.map Sum.inr (
      some false)) 0
noncomputable def laws_szPinS (v0 : (List (Int × Int) × Int)) : Option Int :=
  let v1 : Int := ((v0.1).length : Int)
  let v2 : Int := wrap .i64 (v0.2 - v1)
  let v3 : Bool := decide (v2 < 0)
  bif v3 then (
    some (-1)) else
  some v2
noncomputable def laws_toPin (v0 : (Int × Int)) : Option (Int × Int) :=
  some v0
noncomputable def impl_pinsOf (v0 : (Int × ((Int × Int) × List (Int × Int)))) : Option (List (Int × Int)) :=
  let v1 : List (Int × Int) := [v0.2.1]
  (gapp 16 v1 v0.2.2).bind fun v2 =>
  some v2
noncomputable def laws_eqPin (v0 : ((Int × Int) × (Int × Int))) : Option Bool :=
  let v1 : Bool := decide (v0.1.1 ≠ v0.2.1)
  bif v1 then (
    some false) else
  let v2 : Bool := decide (v0.1.2 ≠ v0.2.2)
  bif v2 then (
    some false) else
  some true
noncomputable def impl_copyInts (v0 : List Int) : Option (List Int) :=
  (gapp 8 ([] : List Int) v0).bind fun v1 =>
  some v1
noncomputable def impl_tileKind (v0 : ((Int × (Int × (Int × Int))) × Int)) : Option Int :=
  (grem v0.2 v0.1.1).bind fun v1 =>
  (gdiv .i64 v0.2 v0.1.1).bind fun v2 =>
  let v3 : Bool := decide (v1 = 0)
  bif v3 then (
    some 0) else
  let v4 : Int := wrap .i64 (v0.1.1 - 1)
  let v5 : Bool := decide (v1 = v4)
  bif v5 then (
    some 0) else
  let v6 : Bool := decide (v2 = 0)
  bif v6 then (
    some 0) else
  let v7 : Int := wrap .i64 (v0.1.2.1 - 1)
  let v8 : Bool := decide (v2 = v7)
  bif v8 then (
    some 0) else
  let v9 : Bool := decide (v1 = v0.1.2.2.2)
  bif v9 then (
    some 2) else
  some 1
noncomputable def spec_NextRandom (v0 : Int) : Option Int :=
  let v1 : Int := gand .i64 v0 2147483647
  let v2 : Int := wrap .i64 (1103515245 * v1)
  let v3 : Int := wrap .i64 (v2 + 12345)
  let v4 : Int := gand .i64 v3 2147483647
  some v4
noncomputable def impl_NextRandom (v0 : Int) : Option Int :=
  let v1 : Int := gand .i64 v0 2147483647
  let v2 : Int := wrap .i64 (1103515245 * v1)
  let v3 : Int := wrap .i64 (v2 + 12345)
  let v4 : Int := gand .i64 v3 2147483647
  some v4
noncomputable def spec_l07Bit (v0 : Bool) : Option Int :=
  bif v0 then (
    some 1) else
  some 0
noncomputable def laws_szRoute (v0 : ((List Int × List Int) × Int)) : Option Int :=
  (laws_szIntS (v0.1.1, v0.2)).bind fun v1 =>
  let v2 : Bool := decide (v1 < 0)
  bif v2 then (
    some (-1)) else
  (laws_szIntS (v0.1.2, v1)).bind fun v3 =>
  let v4 : Bool := decide (v3 < 0)
  bif v4 then (
    some (-1)) else
  some v3
noncomputable def laws_toRoute (v0 : (List Int × List Int)) : Option (List Int × List Int) :=
  (laws_toIntS v0.1).bind fun v1 =>
  (laws_toIntS v0.2).bind fun v2 =>
  some (v1, v2)
noncomputable def impl_PathTo (v0 : ((List Int × List Int) × Int)) : Option (List Int) :=
  let v1 : Int := ((v0.1.1).length : Int)
  let v2 : Int := ((v0.1.2).length : Int)
  let v3 : Bool := decide (v1 ≠ v2)
  bif v3 then (
    some ([] : List Int)) else
  let v4 : Int := ((v0.1.1).length : Int)
  let v5 : Int := wrap .i64 (v4 - 1)
  (impl_inRange (v0.2, (0, v5))).bind fun v6 =>
  let v7 : Bool := !v6
  bif v7 then (
    some ([] : List Int)) else
  Pu.loop (fun (v8 : (Int × List Int)) =>
    let v9 : Bool := decide (0 < v8.1)
    bif v9 then (
      (gget 0 v0.1.1 v8.1).bind fun v10 =>
      let v11 : List Int := [v10]
      (gapp 8 v8.2 v11).bind fun v12 =>
      (gget 0 v0.1.2 v8.1).bind fun v13 =>
      let v14 : Int := wrap .i64 (v8.1 - 1)
      (impl_inRange (v13, (0, v14))).bind fun v15 =>
      let v16 : Bool := !v15
      bif v16 then (
        Option.map Sum.inr (
          some ([] : List Int))) else
      (gget 0 v0.1.2 v8.1).bind fun v17 =>
      some (.inl (v17, v12))) else
    Option.map Sum.inr (
      (gget 0 v0.1.1 0).bind fun v10 =>
      let v11 : List Int := [v10]
      let v12 : Int := ((v8.2).length : Int)
      let v13 : Int := wrap .i64 (v12 - 1)
      Pu.loop (fun (v14 : (Int × List Int)) =>
        let v15 : Bool := decide (0 ≤ v14.1)
        bif v15 then (
          (gin (v8.2).length v14.1).bind fun _ =>
          (gget 0 v8.2 v14.1).bind fun v17 =>
          let v18 : List Int := [v17]
          (gapp 8 v14.2 v18).bind fun v19 =>
          let v20 : Int := wrap .i64 (v14.1 - 1)
          some (.inl (v20, v19))) else
        Option.map Sum.inr (
          some v14.2)) (v13, v11))) (v0.2, ([] : List Int))
noncomputable def laws_eqRoute (v0 : ((List Int × List Int) × (List Int × List Int))) : Option Bool :=
  (laws_eqIntS (v0.1.1, v0.2.1)).bind fun v1 =>
  let v2 : Bool := !v1
  bif v2 then (
    some false) else
  (laws_eqIntS (v0.1.2, v0.2.2)).bind fun v3 =>
  let v4 : Bool := !v3
  bif v4 then (
    some false) else
  some true
noncomputable def laws_markRoute (v0 : ((List Int × List Int) × Int)) : Option (Int × (List Int × List Int)) :=
  (laws_markIntS (v0.1.1, v0.2)).bind fun v1 =>
  (laws_markIntS (v0.1.2, v1.1)).bind fun v2 =>
  some (v2.1, (v1.2, v2.2))
noncomputable def laws_szConn (v0 : ((Int × ((Int × Int) × List (Int × Int))) × Int)) : Option Int :=
  (laws_szPinS (v0.1.2.2, v0.2)).bind fun v1 =>
  let v2 : Bool := decide (v1 < 0)
  bif v2 then (
    some (-1)) else
  some v1
noncomputable def laws_eqPinS (v0 : (List (Int × Int) × List (Int × Int))) : Option Bool :=
  let v1 : Int := ((v0.1).length : Int)
  let v2 : Int := ((v0.2).length : Int)
  let v3 : Bool := decide (v1 ≠ v2)
  bif v3 then (
    some false) else
  Pu.loop (fun (v4 : Int) =>
    let v5 : Int := ((v0.1).length : Int)
    let v6 : Bool := decide (v4 < v5)
    bif v6 then (
      (gget (0, 0) v0.1 v4).bind fun v7 =>
      (gget (0, 0) v0.2 v4).bind fun v8 =>
      (laws_eqPin (v7, v8)).bind fun v9 =>
      let v10 : Bool := !v9
      bif v10 then (
        Option.map Sum.inr (
          some false)) else
      let v11 : Int := wrap .i64 (v4 + 1)
      some (.inl v11)) else
    Option.map Sum.inr (
      some true)) 0
noncomputable def laws_markConnS (v0 : (List (Int × ((Int × Int) × List (Int × Int))) × Int)) : Option (Int × List (Int × ((Int × Int) × List (Int × Int)))) :=
  Pu.loop (fun (v1 : (Int × (Int × List (Int × ((Int × Int) × List (Int × Int)))))) =>
    let v2 : Int := ((v1.2.2).length : Int)
    let v3 : Bool := decide (v1.2.1 < v2)
    bif v3 then (
      (gin (v1.2.2).length v1.2.1).bind fun _ =>
      (gget (0, ((0, 0), [])) v1.2.2 v1.2.1).bind fun v5 =>
      let v6 : (Int × ((Int × Int) × List (Int × Int))) := (v1.1, v5.2)
      let v7 : List (Int × ((Int × Int) × List (Int × Int))) := gset v1.2.2 v1.2.1 v6
      let v8 : Int := wrap .i64 (v1.1 + 1)
      (gin (v7).length v1.2.1).bind fun _ =>
      (gget (0, ((0, 0), [])) v7 v1.2.1).bind fun v10 =>
      let v11 : (Int × ((Int × Int) × List (Int × Int))) := (v10.1, ((v8, v10.2.1.2), v10.2.2))
      let v12 : List (Int × ((Int × Int) × List (Int × Int))) := gset v7 v1.2.1 v11
      let v13 : Int := wrap .i64 (v8 + 1)
      (gin (v12).length v1.2.1).bind fun _ =>
      (gget (0, ((0, 0), [])) v12 v1.2.1).bind fun v15 =>
      let v16 : (Int × ((Int × Int) × List (Int × Int))) := (v15.1, ((v15.2.1.1, v13), v15.2.2))
      let v17 : List (Int × ((Int × Int) × List (Int × Int))) := gset v12 v1.2.1 v16
      let v18 : Int := wrap .i64 (v13 + 1)
      (gin (v17).length v1.2.1).bind fun _ =>
      (gget (0, ((0, 0), [])) v17 v1.2.1).bind fun v20 =>
      (gget (0, ((0, 0), [])) v17 v1.2.1).bind fun v21 =>
      (laws_markPinS (v21.2.2, v18)).bind fun v22 =>
      (gget (0, ((0, 0), [])) v17 v1.2.1).bind fun v23 =>
      let v24 : (Int × ((Int × Int) × List (Int × Int))) := (v23.1, (v23.2.1, v22.2))
      let v25 : List (Int × ((Int × Int) × List (Int × Int))) := gset v17 v1.2.1 v24
      let v26 : Int := wrap .i64 (v1.2.1 + 1)
      some (.inl (v22.1, (v26, v25)))) else
    Option.map Sum.inr (
      some (v1.1, v1.2.2))) (v0.2, (0, v0.1))
noncomputable def spec_DeviceOk (v0 : (Int × (Int × (Int × Int)))) : Option Bool :=
  (spec_l01In (v0.1, (3, 6))).bind fun v1 =>
  bif v1 then (
    (spec_l01In (v0.2.1, (3, 6))).bind fun v2 =>
    bif v2 then (
      (spec_l01In (v0.2.2.1, (1, 4))).bind fun v3 =>
      bif v3 then (
        let v4 : Bool := decide (v0.2.2.2 = (-1))
        bif v4 then (
          some true) else
        let v5 : Int := wrap .i64 (v0.1 - 2)
        (spec_l01In (v0.2.2.2, (1, v5))).bind fun v6 =>
        some v6) else
      some false) else
    some false) else
  some false
noncomputable def impl_DeviceOk (v0 : (Int × (Int × (Int × Int)))) : Option Bool :=
  (impl_inRange (v0.1, (3, 6))).bind fun v1 =>
  bif v1 then (
    (impl_inRange (v0.2.1, (3, 6))).bind fun v2 =>
    bif v2 then (
      (impl_inRange (v0.2.2.1, (1, 4))).bind fun v3 =>
      bif v3 then (
        let v4 : Bool := decide (v0.2.2.2 = (-1))
        bif v4 then (
          some true) else
        let v5 : Int := wrap .i64 (v0.1 - 2)
        (impl_inRange (v0.2.2.2, (1, v5))).bind fun v6 =>
        some v6) else
      some false) else
    some false) else
  some false
noncomputable def spec_l29Pin (v0 : ((Int × Int) × Int)) : Option Bool :=
  let v1 : Bool := decide (0 ≤ v0.1.1)
  bif v1 then (
    let v2 : Bool := decide (v0.1.1 < v0.2)
    bif v2 then (
      (spec_l01In (v0.1.2, (0, 4))).bind fun v3 =>
      some v3) else
    some false) else
  some false
noncomputable def impl_pinOk (v0 : (Int × (Int × Int))) : Option Bool :=
  let v1 : Int := wrap .i64 (v0.1 - 1)
  (impl_inRange (v0.2.1, (0, v1))).bind fun v2 =>
  bif v2 then (
    (impl_inRange (v0.2.2, (0, 4))).bind fun v3 =>
    some v3) else
  some false
noncomputable def laws_toPinS (v0 : List (Int × Int)) : Option (List (Int × Int)) :=
  let v1 : Int := ((v0).length : Int)
  (gmake 16 ((0, 0) : (Int × Int)) v1).bind fun v2 =>
  Pu.loop (fun (v3 : (Int × List (Int × Int))) =>
    let v4 : Int := ((v0).length : Int)
    let v5 : Bool := decide (v3.1 < v4)
    bif v5 then (
      (gget (0, 0) v0 v3.1).bind fun v6 =>
      (laws_toPin v6).bind fun v7 =>
      (gin (v3.2).length v3.1).bind fun _ =>
      (gget (0, 0) v3.2 v3.1).bind fun v9 =>
      let v10 : (Int × Int) := v7
      let v11 : List (Int × Int) := gset v3.2 v3.1 v10
      let v12 : Int := wrap .i64 (v3.1 + 1)
      some (.inl (v12, v11))) else
    Option.map Sum.inr (
      some v3.2)) (0, v2)
noncomputable def impl_tryMove (v0 : (List Int × (Int × Int))) : Option (List Int) :=
  (impl_copyInts v0.1).bind fun v1 =>
  let v2 : Int := ((v1).length : Int)
  Pu.loop (fun (v3 : (Int × List Int)) =>
    let v4 : Bool := decide (v3.1 < v2)
    bif v4 then (
      (gin (v3.2).length v3.1).bind fun _ =>
      (gget 0 v3.2 v3.1).bind fun v6 =>
      let v7 : Bool := decide (v6 = v0.2.2)
      bif v7 then (
        (gin (v3.2).length v0.2.1).bind fun _ =>
        (gget 0 v3.2 v0.2.1).bind fun v9 =>
        (gin (v3.2).length v3.1).bind fun _ =>
        (gget 0 v3.2 v3.1).bind fun v11 =>
        let v12 : Int := v9
        let v13 : List Int := gset v3.2 v3.1 v12
        let v14 : Int := wrap .i64 (v3.1 + 1)
        some (.inl (v14, v13))) else
      let v8 : Int := wrap .i64 (v3.1 + 1)
      some (.inl (v8, v3.2))) else
    Option.map Sum.inr (
      (gin (v3.2).length v0.2.1).bind fun _ =>
      (gget 0 v3.2 v0.2.1).bind fun v6 =>
      let v7 : Int := v0.2.2
      let v8 : List Int := gset v3.2 v0.2.1 v7
      some v8)) (0, v1)
noncomputable def laws_FnExactPathTo (v0 : ((List Int × List Int) × Int)) : Option Bool :=
  (laws_szRoute (v0.1, 1048576)).bind fun v1 =>
  let v2 : Bool := decide (v1 < 0)
  bif v2 then (
    some true) else
  (laws_toRoute v0.1).bind fun v3 =>
  (spec_PathTo (v3, v0.2)).bind fun v4 =>
  (laws_toRoute v0.1).bind fun v5 =>
  (impl_PathTo (v5, v0.2)).bind fun v6 =>
  (laws_eqIntS (v6, v4)).bind fun v7 =>
  let v8 : Bool := !v7
  bif v8 then (
    some false) else
  (laws_toRoute v0.1).bind fun v9 =>
  (laws_eqRoute (v5, v9)).bind fun v10 =>
  let v11 : Bool := !v10
  bif v11 then (
    some false) else
  (laws_markRoute (v5, 1)).bind fun v12 =>
  let v13 : Bool := decide (v12.1 < 0)
  bif v13 then (
    some false) else
  (laws_eqIntS (v6, v4)).bind fun v14 =>
  let v15 : Bool := !v14
  bif v15 then (
    some false) else
  (laws_markIntS (v6, 1)).bind fun v16 =>
  (laws_heldIntS (v16.2, 1)).bind fun v17 =>
  let v18 : Bool := decide (v17 < 0)
  bif v18 then (
    some false) else
  let v19 : Bool := decide (v17 ≠ v16.1)
  bif v19 then (
    some false) else
  (laws_toRoute v0.1).bind fun v20 =>
  (impl_PathTo (v20, v0.2)).bind fun v21 =>
  (laws_eqIntS (v21, v4)).bind fun v22 =>
  let v23 : Bool := !v22
  bif v23 then (
    some false) else
  (laws_heldIntS (v16.2, 1)).bind fun v24 =>
  let v25 : Bool := decide (v24 < 0)
  bif v25 then (
    some false) else
  let v26 : Bool := decide (v24 ≠ v16.1)
  bif v26 then (
    some false) else
  some true
noncomputable def laws_szConnS (v0 : (List (Int × ((Int × Int) × List (Int × Int))) × Int)) : Option Int :=
  let v1 : Int := ((v0.1).length : Int)
  let v2 : Int := wrap .i64 (v0.2 - v1)
  let v3 : Bool := decide (v2 < 0)
  bif v3 then (
    some (-1)) else
  Pu.loop (fun (v4 : (Int × Int)) =>
    let v5 : Int := ((v0.1).length : Int)
    let v6 : Bool := decide (v4.2 < v5)
    bif v6 then (
      (gget (0, ((0, 0), [])) v0.1 v4.2).bind fun v7 =>
      (laws_szConn (v7, v4.1)).bind fun v8 =>
      let v9 : Bool := decide (v8 < 0)
      bif v9 then (
        Option.map Sum.inr (
          some (-1))) else
      let v10 : Int := wrap .i64 (v4.2 + 1)
      some (.inl (v8, v10))) else
    Option.map Sum.inr (
      some v4.1)) (v2, 0)
noncomputable def spec_ConnsOk (v0 : (Int × List (Int × ((Int × Int) × List (Int × Int))))) : Option Bool :=
  (spec_l01In (v0.1, (0, 64))).bind fun v1 =>
  let v2 : Bool := !v1
  bif v2 then (
    some false) else
  let v3 : Int := ((v0.2).length : Int)
  let v4 : Bool := decide (100 < v3)
  bif v4 then (
    some false) else
  Pu.loop (fun (v5 : Int) =>
    let v6 : Int := ((v0.2).length : Int)
    let v7 : Bool := decide (v5 < v6)
    bif v7 then (
      (gget (0, ((0, 0), [])) v0.2 v5).bind fun v8 =>
      let v9 : Int := ((v8.2.2).length : Int)
      (spec_l01In (v9, (1, 120))).bind fun v10 =>
      let v11 : Bool := !v10
      bif v11 then (
        Option.map Sum.inr (
          some false)) else
      (gget (0, ((0, 0), [])) v0.2 v5).bind fun v12 =>
      (spec_l29Pin (v12.2.1, v0.1)).bind fun v13 =>
      let v14 : Bool := !v13
      bif v14 then (
        Option.map Sum.inr (
          some false)) else
      Pu.loop (fun (v15 : Int) =>
        (gget (0, ((0, 0), [])) v0.2 v5).bind fun v16 =>
        let v17 : Int := ((v16.2.2).length : Int)
        let v18 : Bool := decide (v15 < v17)
        bif v18 then (
          (gget (0, ((0, 0), [])) v0.2 v5).bind fun v19 =>
          (gget (0, 0) v19.2.2 v15).bind fun v20 =>
          (spec_l29Pin (v20, v0.1)).bind fun v21 =>
          let v22 : Bool := !v21
          bif v22 then (
            Option.map Sum.inr (
              Option.map Sum.inr (
                some false))) else
          let v23 : Int := wrap .i64 (v15 + 1)
          some (.inl v23)) else
        Option.map Sum.inr (
          let v19 : Int := wrap .i64 (v5 + 1)
          some (.inl v19))) 0) else
    Option.map Sum.inr (
      some true)) 0
noncomputable def impl_ConnsOk (v0 : (Int × List (Int × ((Int × Int) × List (Int × Int))))) : Option Bool :=
  (impl_inRange (v0.1, (0, 64))).bind fun v1 =>
  let v2 : Bool := !v1
  bif v2 then (
    some false) else
  let v3 : Int := ((v0.2).length : Int)
  let v4 : Bool := decide (100 < v3)
  bif v4 then (
    some false) else
  let v5 : Int := ((v0.2).length : Int)
  Pu.loop (fun (v6 : Int) =>
    let v7 : Bool := decide (v6 < v5)
    bif v7 then (
      (gget (0, ((0, 0), [])) v0.2 v6).bind fun v8 =>
      let v9 : Int := ((v8.2.2).length : Int)
      (impl_inRange (v9, (1, 120))).bind fun v10 =>
      let v11 : Bool := !v10
      bif v11 then (
        Option.map Sum.inr (
          some false)) else
      (impl_pinOk (v0.1, v8.2.1)).bind fun v12 =>
      let v13 : Bool := !v12
      bif v13 then (
        Option.map Sum.inr (
          some false)) else
      let v14 : Int := ((v8.2.2).length : Int)
      Pu.loop (fun (v15 : Int) =>
        let v16 : Bool := decide (v15 < v14)
        bif v16 then (
          (gget (0, 0) v8.2.2 v15).bind fun v17 =>
          (impl_pinOk (v0.1, v17)).bind fun v18 =>
          let v19 : Bool := !v18
          bif v19 then (
            Option.map Sum.inr (
              Option.map Sum.inr (
                some false))) else
          let v20 : Int := wrap .i64 (v15 + 1)
          some (.inl v20)) else
        Option.map Sum.inr (
          let v17 : Int := wrap .i64 (v6 + 1)
          some (.inl v17))) 0) else
    Option.map Sum.inr (
      some true)) 0
noncomputable def laws_toConn (v0 : (Int × ((Int × Int) × List (Int × Int)))) : Option (Int × ((Int × Int) × List (Int × Int))) :=
  (laws_toPin v0.2.1).bind fun v1 =>
  (laws_toPinS v0.2.2).bind fun v2 =>
  some (v0.1, (v1, v2))
noncomputable def laws_eqConn (v0 : ((Int × ((Int × Int) × List (Int × Int))) × (Int × ((Int × Int) × List (Int × Int))))) : Option Bool :=
  let v1 : Bool := decide (v0.1.1 ≠ v0.2.1)
  bif v1 then (
    some false) else
  (laws_eqPin (v0.1.2.1, v0.2.2.1)).bind fun v2 =>
  let v3 : Bool := !v2
  bif v3 then (
    some false) else
  (laws_eqPinS (v0.1.2.2, v0.2.2.2)).bind fun v4 =>
  let v5 : Bool := !v4
  bif v5 then (
    some false) else
  some true
noncomputable def spec_TileKind (v0 : ((Int × (Int × (Int × Int))) × Int)) : Option Int :=
  (spec_DeviceOk v0.1).bind fun v1 =>
  let v2 : Bool := !v1
  bif v2 then (
    some (-1)) else
  let v3 : Bool := decide (v0.2 < 0)
  bif v3 then (
    some (-1)) else
  let v4 : Int := wrap .i64 (v0.1.1 * v0.1.2.1)
  let v5 : Bool := decide (v4 ≤ v0.2)
  bif v5 then (
    some (-1)) else
  (grem v0.2 v0.1.1).bind fun v6 =>
  (gdiv .i64 v0.2 v0.1.1).bind fun v7 =>
  let v8 : Bool := decide (v6 = 0)
  bif v8 then (
    some 0) else
  let v9 : Bool := decide (v7 = 0)
  bif v9 then (
    some 0) else
  let v10 : Int := wrap .i64 (v0.1.1 - 1)
  let v11 : Bool := decide (v6 = v10)
  bif v11 then (
    some 0) else
  let v12 : Int := wrap .i64 (v0.1.2.1 - 1)
  let v13 : Bool := decide (v7 = v12)
  bif v13 then (
    some 0) else
  let v14 : Bool := decide (v6 = v0.1.2.2.2)
  bif v14 then (
    some 2) else
  some 1
noncomputable def impl_TilesOf (v0 : ((Int × (Int × (Int × Int))) × Int)) : Option (List Int) :=
  (impl_DeviceOk v0.1).bind fun v1 =>
  let v2 : Bool := !v1
  bif v2 then (
    some ([] : List Int)) else
  Pu.loop (fun (v3 : (List Int × Int)) =>
    let v4 : Int := wrap .i64 (v0.1.1 * v0.1.2.1)
    let v5 : Bool := decide (v3.2 < v4)
    bif v5 then (
      (impl_tileKind (v0.1, v3.2)).bind fun v6 =>
      let v7 : Bool := decide (v6 = v0.2)
      bif v7 then (
        let v8 : List Int := [v3.2]
        (gapp 8 v3.1 v8).bind fun v9 =>
        let v10 : Int := wrap .i64 (v3.2 + 1)
        some (.inl (v9, v10))) else
      let v8 : Int := wrap .i64 (v3.2 + 1)
      some (.inl (v3.1, v8))) else
    Option.map Sum.inr (
      some v3.1)) (([] : List Int), 0)
noncomputable def impl_tileOk (v0 : ((Int × (Int × (Int × Int))) × Int)) : Option Bool :=
  (impl_DeviceOk v0.1).bind fun v1 =>
  bif v1 then (
    let v2 : Int := wrap .i64 (v0.1.1 * v0.1.2.1)
    let v3 : Int := wrap .i64 (v2 - 1)
    (impl_inRange (v0.2, (0, v3))).bind fun v4 =>
    some v4) else
  some false
noncomputable def spec_PlaceOk (v0 : ((Int × (Int × (Int × Int))) × (List Int × List Int))) : Option Bool :=
  (spec_DeviceOk v0.1).bind fun v1 =>
  let v2 : Bool := !v1
  bif v2 then (
    some false) else
  let v3 : Int := ((v0.2.1).length : Int)
  let v4 : Bool := decide (64 < v3)
  bif v4 then (
    some false) else
  let v5 : Int := ((v0.2.2).length : Int)
  let v6 : Int := ((v0.2.1).length : Int)
  let v7 : Bool := decide (v5 ≠ v6)
  bif v7 then (
    some false) else
  let v8 : Int := wrap .i64 (v0.1.1 * v0.1.2.1)
  (gmake 1 (false : Bool) v8).bind fun v9 =>
  Pu.loop (fun (v10 : (Int × List Bool)) =>
    let v11 : Int := ((v0.2.1).length : Int)
    let v12 : Bool := decide (v10.1 < v11)
    bif v12 then (
      (gget 0 v0.2.2 v10.1).bind fun v13 =>
      (spec_TileKind (v0.1, v13)).bind fun v14 =>
      let v15 : Bool := decide (v14 < 0)
      bif v15 then (
        Option.map Sum.inr (
          some false)) else
      (gget 0 v0.2.1 v10.1).bind fun v16 =>
      (spec_BlockTile v16).bind fun v17 =>
      let v18 : Bool := decide (v14 ≠ v17)
      bif v18 then (
        Option.map Sum.inr (
          some false)) else
      (gget 0 v0.2.2 v10.1).bind fun v19 =>
      (gin (v10.2).length v19).bind fun _ =>
      (gget false v10.2 v19).bind fun v21 =>
      bif v21 then (
        Option.map Sum.inr (
          some false)) else
      (gget 0 v0.2.2 v10.1).bind fun v22 =>
      (gin (v10.2).length v22).bind fun _ =>
      (gget false v10.2 v22).bind fun v24 =>
      let v25 : Bool := true
      let v26 : List Bool := gset v10.2 v22 v25
      let v27 : Int := wrap .i64 (v10.1 + 1)
      some (.inl (v27, v26))) else
    Option.map Sum.inr (
      some true)) (0, v9)
noncomputable def impl_NearestFree (v0 : ((Int × (Int × (Int × Int))) × (Int × (Int × (Int × List Int))))) : Option Int :=
  (impl_DeviceOk v0.1).bind fun v1 =>
  let v2 : Bool := !v1
  bif v2 then (
    some (-1)) else
  (impl_inRange (v0.2.2.1, (0, 600))).bind fun v3 =>
  let v4 : Bool := !v3
  bif v4 then (
    some (-1)) else
  (impl_inRange (v0.2.2.2.1, (0, 600))).bind fun v5 =>
  let v6 : Bool := !v5
  bif v6 then (
    some (-1)) else
  (impl_TilesOf (v0.1, v0.2.1)).bind fun v7 =>
  let v8 : Int := ((v7).length : Int)
  Pu.loop (fun (v9 : (Int × (Int × Int))) =>
    let v10 : Bool := decide (v9.1 < v8)
    bif v10 then (
      (gin (v7).length v9.1).bind fun _ =>
      (gget 0 v7 v9.1).bind fun v12 =>
      (impl_hasInt (v0.2.2.2.2, v12)).bind fun v13 =>
      bif v13 then (
        let v14 : Int := wrap .i64 (v9.1 + 1)
        some (.inl (v14, v9.2))) else
      (grem v12 v0.1.1).bind fun v14 =>
      let v15 : Int := wrap .i64 (100 * v14)
      let v16 : Int := wrap .i64 (v15 - v0.2.2.1)
      (gdiv .i64 v12 v0.1.1).bind fun v17 =>
      let v18 : Int := wrap .i64 (100 * v17)
      let v19 : Int := wrap .i64 (v18 - v0.2.2.2.1)
      let v20 : Int := wrap .i64 (v16 * v16)
      let v21 : Int := wrap .i64 (v19 * v19)
      let v22 : Int := wrap .i64 (v20 + v21)
      let v23 : Bool := decide (v9.2.1 < 0)
      bif v23 then (
        let v24 : Int := wrap .i64 (v9.1 + 1)
        some (.inl (v24, (v12, v22)))) else
      let v24 : Bool := decide (v22 < v9.2.2)
      bif v24 then (
        let v25 : Int := wrap .i64 (v9.1 + 1)
        some (.inl (v25, (v12, v22)))) else
      let v25 : Int := wrap .i64 (v9.1 + 1)
      some (.inl (v25, v9.2))) else
    Option.map Sum.inr (
      some v9.2.1)) (0, ((-1), 0))
noncomputable def laws_toConnS (v0 : List (Int × ((Int × Int) × List (Int × Int)))) : Option (List (Int × ((Int × Int) × List (Int × Int)))) :=
  let v1 : Int := ((v0).length : Int)
  (gmake 48 ((0, ((0, 0), [])) : (Int × ((Int × Int) × List (Int × Int)))) v1).bind fun v2 =>
  Pu.loop (fun (v3 : (Int × List (Int × ((Int × Int) × List (Int × Int))))) =>
    let v4 : Int := ((v0).length : Int)
    let v5 : Bool := decide (v3.1 < v4)
    bif v5 then (
      (gget (0, ((0, 0), [])) v0 v3.1).bind fun v6 =>
      (laws_toConn v6).bind fun v7 =>
      (gin (v3.2).length v3.1).bind fun _ =>
      (gget (0, ((0, 0), [])) v3.2 v3.1).bind fun v9 =>
      let v10 : (Int × ((Int × Int) × List (Int × Int))) := v7
      let v11 : List (Int × ((Int × Int) × List (Int × Int))) := gset v3.2 v3.1 v10
      let v12 : Int := wrap .i64 (v3.1 + 1)
      some (.inl (v12, v11))) else
    Option.map Sum.inr (
      some v3.2)) (0, v2)
noncomputable def laws_eqConnS (v0 : (List (Int × ((Int × Int) × List (Int × Int))) × List (Int × ((Int × Int) × List (Int × Int))))) : Option Bool :=
  let v1 : Int := ((v0.1).length : Int)
  let v2 : Int := ((v0.2).length : Int)
  let v3 : Bool := decide (v1 ≠ v2)
  bif v3 then (
    some false) else
  Pu.loop (fun (v4 : Int) =>
    let v5 : Int := ((v0.1).length : Int)
    let v6 : Bool := decide (v4 < v5)
    bif v6 then (
      (gget (0, ((0, 0), [])) v0.1 v4).bind fun v7 =>
      (gget (0, ((0, 0), [])) v0.2 v4).bind fun v8 =>
      (laws_eqConn (v7, v8)).bind fun v9 =>
      let v10 : Bool := !v9
      bif v10 then (
        Option.map Sum.inr (
          some false)) else
      let v11 : Int := wrap .i64 (v4 + 1)
      some (.inl v11)) else
    Option.map Sum.inr (
      some true)) 0
noncomputable def spec_ConnSpan (v0 : ((Int × (Int × (Int × Int))) × (List Int × (Int × ((Int × Int) × List (Int × Int)))))) : Option Int :=
  (spec_DeviceOk v0.1).bind fun v1 =>
  let v2 : Bool := !v1
  bif v2 then (
    some (-1)) else
  let v3 : List (Int × Int) := [v0.2.2.2.1]
  (gapp 16 v3 v0.2.2.2.2).bind fun v4 =>
  Pu.loop (fun (v5 : (Int × (Int × (Int × (Int × Int))))) =>
    let v6 : Int := ((v4).length : Int)
    let v7 : Bool := decide (v5.2.2.2.2 < v6)
    bif v7 then (
      (gin (v4).length v5.2.2.2.2).bind fun _ =>
      (gget (0, 0) v4 v5.2.2.2.2).bind fun v9 =>
      let v10 : Bool := decide (v9.1 < 0)
      bif v10 then (
        Option.map Sum.inr (
          some (-1))) else
      let v11 : Int := ((v0.2.1).length : Int)
      let v12 : Bool := decide (v11 ≤ v9.1)
      bif v12 then (
        Option.map Sum.inr (
          some (-1))) else
      (gget 0 v0.2.1 v9.1).bind fun v13 =>
      (spec_TileKind (v0.1, v13)).bind fun v14 =>
      let v15 : Bool := decide (v14 < 0)
      bif v15 then (
        Option.map Sum.inr (
          some (-1))) else
      (gget 0 v0.2.1 v9.1).bind fun v16 =>
      (grem v16 v0.1.1).bind fun v17 =>
      let v18 : Int := if v17 < v5.1 then v17 else v5.1
      (gget 0 v0.2.1 v9.1).bind fun v19 =>
      (grem v19 v0.1.1).bind fun v20 =>
      let v21 : Int := if v5.2.1 < v20 then v20 else v5.2.1
      (gget 0 v0.2.1 v9.1).bind fun v22 =>
      (gdiv .i64 v22 v0.1.1).bind fun v23 =>
      let v24 : Int := if v23 < v5.2.2.1 then v23 else v5.2.2.1
      (gget 0 v0.2.1 v9.1).bind fun v25 =>
      (gdiv .i64 v25 v0.1.1).bind fun v26 =>
      let v27 : Int := if v5.2.2.2.1 < v26 then v26 else v5.2.2.2.1
      let v28 : Int := wrap .i64 (v5.2.2.2.2 + 1)
      some (.inl (v18, (v21, (v24, (v27, v28)))))) else
    Option.map Sum.inr (
      let v8 : Int := wrap .i64 (v5.2.1 - v5.1)
      let v9 : Int := wrap .i64 (v8 + v5.2.2.2.1)
      let v10 : Int := wrap .i64 (v9 - v5.2.2.1)
      some v10)) (v0.1.1, (0, (v0.1.2.1, (0, 0))))
noncomputable def impl_ConnSpan (v0 : ((Int × (Int × (Int × Int))) × (List Int × (Int × ((Int × Int) × List (Int × Int)))))) : Option Int :=
  (impl_DeviceOk v0.1).bind fun v1 =>
  let v2 : Bool := !v1
  bif v2 then (
    some (-1)) else
  (impl_pinsOf v0.2.2).bind fun v3 =>
  let v4 : Int := ((v3).length : Int)
  Pu.loop (fun (v5 : (Int × (Int × (Int × (Int × Int))))) =>
    let v6 : Bool := decide (v5.2.2.2.2 < v4)
    bif v6 then (
      (gin (v3).length v5.2.2.2.2).bind fun _ =>
      (gget (0, 0) v3 v5.2.2.2.2).bind fun v8 =>
      let v9 : Int := ((v0.2.1).length : Int)
      let v10 : Int := wrap .i64 (v9 - 1)
      (impl_inRange (v8.1, (0, v10))).bind fun v11 =>
      let v12 : Bool := !v11
      bif v12 then (
        Option.map Sum.inr (
          some (-1))) else
      (gget 0 v0.2.1 v8.1).bind fun v13 =>
      (impl_tileOk (v0.1, v13)).bind fun v14 =>
      let v15 : Bool := !v14
      bif v15 then (
        Option.map Sum.inr (
          some (-1))) else
      (gget 0 v0.2.1 v8.1).bind fun v16 =>
      (grem v16 v0.1.1).bind fun v17 =>
      (gget 0 v0.2.1 v8.1).bind fun v18 =>
      (gdiv .i64 v18 v0.1.1).bind fun v19 =>
      let v20 : Int := if v17 < v5.1 then v17 else v5.1
      let v21 : Int := if v5.2.1 < v17 then v17 else v5.2.1
      let v22 : Int := if v19 < v5.2.2.1 then v19 else v5.2.2.1
      let v23 : Int := if v5.2.2.2.1 < v19 then v19 else v5.2.2.2.1
      let v24 : Int := wrap .i64 (v5.2.2.2.2 + 1)
      some (.inl (v20, (v21, (v22, (v23, v24)))))) else
    Option.map Sum.inr (
      let v7 : Int := wrap .i64 (v5.2.1 - v5.1)
      let v8 : Int := wrap .i64 (v7 + v5.2.2.2.1)
      let v9 : Int := wrap .i64 (v8 - v5.2.2.1)
      some v9)) (6, ((-1), (6, ((-1), 0))))
noncomputable def impl_TileKind (v0 : ((Int × (Int × (Int × Int))) × Int)) : Option Int :=
  (impl_tileOk v0).bind fun v1 =>
  let v2 : Bool := !v1
  bif v2 then (
    some (-1)) else
  (impl_tileKind v0).bind fun v3 =>
  some v3
noncomputable def spec_TilesOf (v0 : ((Int × (Int × (Int × Int))) × Int)) : Option (List Int) :=
  (spec_DeviceOk v0.1).bind fun v1 =>
  let v2 : Bool := !v1
  bif v2 then (
    some ([] : List Int)) else
  Pu.loop (fun (v3 : (Int × List Int)) =>
    let v4 : Int := wrap .i64 (v0.1.1 * v0.1.2.1)
    let v5 : Bool := decide (v3.1 < v4)
    bif v5 then (
      (spec_TileKind (v0.1, v3.1)).bind fun v6 =>
      let v7 : Bool := decide (v6 = v0.2)
      bif v7 then (
        let v8 : List Int := [v3.1]
        (gapp 8 v3.2 v8).bind fun v9 =>
        let v10 : Int := wrap .i64 (v3.1 + 1)
        some (.inl (v10, v9))) else
      let v8 : Int := wrap .i64 (v3.1 + 1)
      some (.inl (v8, v3.2))) else
    Option.map Sum.inr (
      some v3.2)) (0, ([] : List Int))
noncomputable def laws_FnExactConnsOk (v0 : (Int × List (Int × ((Int × Int) × List (Int × Int))))) : Option Bool :=
  (laws_szConnS (v0.2, 1048576)).bind fun v1 =>
  let v2 : Bool := decide (v1 < 0)
  bif v2 then (
    some true) else
  (laws_toConnS v0.2).bind fun v3 =>
  (spec_ConnsOk (v0.1, v3)).bind fun v4 =>
  (laws_toConnS v0.2).bind fun v5 =>
  (impl_ConnsOk (v0.1, v5)).bind fun v6 =>
  let v7 : Bool := (true ^^ (v6 == v4))
  bif v7 then (
    some false) else
  (laws_toConnS v0.2).bind fun v8 =>
  (laws_eqConnS (v5, v8)).bind fun v9 =>
  let v10 : Bool := !v9
  bif v10 then (
    some false) else
  some true
noncomputable def impl_PlaceOk (v0 : ((Int × (Int × (Int × Int))) × (List Int × List Int))) : Option Bool :=
  (impl_DeviceOk v0.1).bind fun v1 =>
  let v2 : Bool := !v1
  bif v2 then (
    some false) else
  let v3 : Int := ((v0.2.1).length : Int)
  let v4 : Bool := decide (64 < v3)
  bif v4 then (
    some false) else
  let v5 : Int := ((v0.2.2).length : Int)
  let v6 : Int := ((v0.2.1).length : Int)
  let v7 : Bool := decide (v5 ≠ v6)
  bif v7 then (
    some false) else
  let v8 : Int := ((v0.2.2).length : Int)
  Pu.loop (fun (v9 : Int) =>
    let v10 : Bool := decide (v9 < v8)
    bif v10 then (
      (gget 0 v0.2.2 v9).bind fun v11 =>
      (gget 0 v0.2.1 v9).bind fun v12 =>
      (impl_BlockTile v12).bind fun v13 =>
      let v14 : Bool := decide (v13 < 0)
      bif v14 then (
        Option.map Sum.inr (
          some false)) else
      (impl_TileKind (v0.1, v11)).bind fun v15 =>
      let v16 : Bool := decide (v15 ≠ v13)
      bif v16 then (
        Option.map Sum.inr (
          some false)) else
      (gslice v0.2.2 0 v9).bind fun v17 =>
      (impl_hasInt (v17, v11)).bind fun v18 =>
      bif v18 then (
        Option.map Sum.inr (
          some false)) else
      let v19 : Int := wrap .i64 (v9 + 1)
      some (.inl v19)) else
    Option.map Sum.inr (
      some true)) 0
noncomputable def spec_NearestFree (v0 : ((Int × (Int × (Int × Int))) × (Int × (Int × (Int × List Int))))) : Option Int :=
  (spec_l01In (v0.2.2.1, (0, 600))).bind fun v1 =>
  let v2 : Bool := !v1
  bif v2 then (
    some (-1)) else
  (spec_l01In (v0.2.2.2.1, (0, 600))).bind fun v3 =>
  let v4 : Bool := !v3
  bif v4 then (
    some (-1)) else
  (spec_TilesOf (v0.1, v0.2.1)).bind fun v5 =>
  Pu.loop (fun (v6 : (Int × (Int × Int))) =>
    let v7 : Int := ((v5).length : Int)
    let v8 : Bool := decide (v6.2.2 < v7)
    bif v8 then (
      (gin (v5).length v6.2.2).bind fun _ =>
      (gget 0 v5 v6.2.2).bind fun v10 =>
      (grem v10 v0.1.1).bind fun v11 =>
      let v12 : Int := wrap .i64 (100 * v11)
      let v13 : Int := wrap .i64 (v12 - v0.2.2.1)
      (gin (v5).length v6.2.2).bind fun _ =>
      (gget 0 v5 v6.2.2).bind fun v15 =>
      (gdiv .i64 v15 v0.1.1).bind fun v16 =>
      let v17 : Int := wrap .i64 (100 * v16)
      let v18 : Int := wrap .i64 (v17 - v0.2.2.2.1)
      let v19 : Int := wrap .i64 (v13 * v13)
      let v20 : Int := wrap .i64 (v18 * v18)
      let v21 : Int := wrap .i64 (v19 + v20)
      (gin (v5).length v6.2.2).bind fun _ =>
      (gget 0 v5 v6.2.2).bind fun v23 =>
      (spec_l13Has (v0.2.2.2.2, v23)).bind fun v24 =>
      let v25 : Bool := !v24
      bif v25 then (
        let v26 : Bool := decide (v6.1 < 0)
        bif v26 then (
          (gin (v5).length v6.2.2).bind fun _ =>
          (gget 0 v5 v6.2.2).bind fun v28 =>
          let v29 : Int := wrap .i64 (v6.2.2 + 1)
          some (.inl (v28, (v21, v29)))) else
        let v27 : Bool := decide (v21 < v6.2.1)
        bif v27 then (
          (gin (v5).length v6.2.2).bind fun _ =>
          (gget 0 v5 v6.2.2).bind fun v29 =>
          let v30 : Int := wrap .i64 (v6.2.2 + 1)
          some (.inl (v29, (v21, v30)))) else
        let v28 : Int := wrap .i64 (v6.2.2 + 1)
        some (.inl (v6.1, (v6.2.1, v28)))) else
      let v26 : Int := wrap .i64 (v6.2.2 + 1)
      some (.inl (v6.1, (v6.2.1, v26)))) else
    Option.map Sum.inr (
      some v6.1)) ((-1), (0, 0))
noncomputable def spec_TryMove (v0 : ((Int × (Int × (Int × Int))) × (List Int × (List Int × (Int × Int))))) : Option (List Int × Bool) :=
  (gapp 8 ([] : List Int) v0.2.2.1).bind fun v1 =>
  (spec_PlaceOk (v0.1, (v0.2.1, v0.2.2.1))).bind fun v2 =>
  let v3 : Bool := !v2
  bif v3 then (
    some (v1, false)) else
  let v4 : Bool := decide (v0.2.2.2.1 < 0)
  bif v4 then (
    some (v1, false)) else
  let v5 : Int := ((v0.2.2.1).length : Int)
  let v6 : Bool := decide (v5 ≤ v0.2.2.2.1)
  bif v6 then (
    some (v1, false)) else
  (spec_TileKind (v0.1, v0.2.2.2.2)).bind fun v7 =>
  let v8 : Bool := decide (v7 < 0)
  bif v8 then (
    some (v1, false)) else
  (gget 0 v0.2.1 v0.2.2.2.1).bind fun v9 =>
  (spec_BlockTile v9).bind fun v10 =>
  let v11 : Bool := decide (v7 ≠ v10)
  bif v11 then (
    some (v1, false)) else
  Pu.loop (fun (v12 : (Int × List Int)) =>
    let v13 : Int := ((v12.2).length : Int)
    let v14 : Bool := decide (v12.1 < v13)
    bif v14 then (
      (gin (v12.2).length v12.1).bind fun _ =>
      (gget 0 v12.2 v12.1).bind fun v16 =>
      let v17 : Bool := decide (v16 = v0.2.2.2.2)
      bif v17 then (
        (gget 0 v0.2.2.1 v0.2.2.2.1).bind fun v18 =>
        (gin (v12.2).length v12.1).bind fun _ =>
        (gget 0 v12.2 v12.1).bind fun v20 =>
        let v21 : Int := v18
        let v22 : List Int := gset v12.2 v12.1 v21
        let v23 : Int := wrap .i64 (v12.1 + 1)
        some (.inl (v23, v22))) else
      let v18 : Int := wrap .i64 (v12.1 + 1)
      some (.inl (v18, v12.2))) else
    Option.map Sum.inr (
      (gin (v12.2).length v0.2.2.2.1).bind fun _ =>
      (gget 0 v12.2 v0.2.2.2.1).bind fun v16 =>
      let v17 : Int := v0.2.2.2.2
      let v18 : List Int := gset v12.2 v0.2.2.2.1 v17
      some (v18, true))) (0, v1)
noncomputable def spec_PlaceCost (v0 : ((Int × (Int × (Int × Int))) × (List Int × List (Int × ((Int × Int) × List (Int × Int)))))) : Option Int :=
  let v1 : Int := ((v0.2.1).length : Int)
  (spec_ConnsOk (v1, v0.2.2)).bind fun v2 =>
  let v3 : Bool := !v2
  bif v3 then (
    some (-1)) else
  Pu.loop (fun (v4 : (Int × Int)) =>
    let v5 : Int := ((v0.2.2).length : Int)
    let v6 : Bool := decide (v4.2 < v5)
    bif v6 then (
      (gget (0, ((0, 0), [])) v0.2.2 v4.2).bind fun v7 =>
      (spec_ConnSpan (v0.1, (v0.2.1, v7))).bind fun v8 =>
      let v9 : Bool := decide (v8 < 0)
      bif v9 then (
        Option.map Sum.inr (
          some (-1))) else
      let v10 : Int := wrap .i64 (v4.1 + v8)
      let v11 : Int := wrap .i64 (v4.2 + 1)
      some (.inl (v10, v11))) else
    Option.map Sum.inr (
      some v4.1)) (0, 0)
noncomputable def impl_PlaceCost (v0 : ((Int × (Int × (Int × Int))) × (List Int × List (Int × ((Int × Int) × List (Int × Int)))))) : Option Int :=
  let v1 : Int := ((v0.2.1).length : Int)
  (impl_ConnsOk (v1, v0.2.2)).bind fun v2 =>
  let v3 : Bool := !v2
  bif v3 then (
    some (-1)) else
  let v4 : Int := ((v0.2.2).length : Int)
  Pu.loop (fun (v5 : (Int × Int)) =>
    let v6 : Bool := decide (v5.2 < v4)
    bif v6 then (
      (gget (0, ((0, 0), [])) v0.2.2 v5.2).bind fun v7 =>
      (impl_ConnSpan (v0.1, (v0.2.1, v7))).bind fun v8 =>
      let v9 : Bool := decide (v8 < 0)
      bif v9 then (
        Option.map Sum.inr (
          some (-1))) else
      let v10 : Int := wrap .i64 (v5.1 + v8)
      let v11 : Int := wrap .i64 (v5.2 + 1)
      some (.inl (v10, v11))) else
    Option.map Sum.inr (
      some v5.1)) (0, 0)
noncomputable def laws_FnExactNearestFree (v0 : ((Int × (Int × (Int × Int))) × (Int × (Int × (Int × List Int))))) : Option Bool :=
  let v1 : Int := ((v0.2.2.2.2).length : Int)
  let v2 : Bool := decide (1048576 < v1)
  bif v2 then (
    some true) else
  (laws_toDevice v0.1).bind fun v3 =>
  (laws_toIntS v0.2.2.2.2).bind fun v4 =>
  (spec_NearestFree (v3, (v0.2.1, (v0.2.2.1, (v0.2.2.2.1, v4))))).bind fun v5 =>
  (laws_toIntS v0.2.2.2.2).bind fun v6 =>
  (laws_toDevice v0.1).bind fun v7 =>
  (impl_NearestFree (v7, (v0.2.1, (v0.2.2.1, (v0.2.2.2.1, v6))))).bind fun v8 =>
  let v9 : Bool := decide (v8 ≠ v5)
  bif v9 then (
    some false) else
  (laws_toIntS v0.2.2.2.2).bind fun v10 =>
  (laws_eqIntS (v6, v10)).bind fun v11 =>
  let v12 : Bool := !v11
  bif v12 then (
    some false) else
  some true
noncomputable def laws_FnExactPlaceCost (v0 : ((Int × (Int × (Int × Int))) × (List Int × List (Int × ((Int × Int) × List (Int × Int)))))) : Option Bool :=
  let v1 : Int := ((v0.2.1).length : Int)
  let v2 : Bool := decide (1048576 < v1)
  bif v2 then (
    some true) else
  (laws_szConnS (v0.2.2, 1048576)).bind fun v3 =>
  let v4 : Bool := decide (v3 < 0)
  bif v4 then (
    some true) else
  (laws_toDevice v0.1).bind fun v5 =>
  (laws_toIntS v0.2.1).bind fun v6 =>
  (laws_toConnS v0.2.2).bind fun v7 =>
  (spec_PlaceCost (v5, (v6, v7))).bind fun v8 =>
  (laws_toIntS v0.2.1).bind fun v9 =>
  (laws_toConnS v0.2.2).bind fun v10 =>
  (laws_toDevice v0.1).bind fun v11 =>
  (impl_PlaceCost (v11, (v9, v10))).bind fun v12 =>
  let v13 : Bool := decide (v12 ≠ v8)
  bif v13 then (
    some false) else
  (laws_toIntS v0.2.1).bind fun v14 =>
  (laws_eqIntS (v9, v14)).bind fun v15 =>
  let v16 : Bool := !v15
  bif v16 then (
    some false) else
  (laws_toConnS v0.2.2).bind fun v17 =>
  (laws_eqConnS (v10, v17)).bind fun v18 =>
  let v19 : Bool := !v18
  bif v19 then (
    some false) else
  some true
noncomputable def impl_TryMove (v0 : ((Int × (Int × (Int × Int))) × (List Int × (List Int × (Int × Int))))) : Option (List Int × Bool) :=
  (impl_PlaceOk (v0.1, (v0.2.1, v0.2.2.1))).bind fun v1 =>
  let v2 : Bool := !v1
  bif v2 then (
    (impl_copyInts v0.2.2.1).bind fun v3 =>
    some (v3, false)) else
  let v3 : Int := ((v0.2.1).length : Int)
  let v4 : Int := wrap .i64 (v3 - 1)
  (impl_inRange (v0.2.2.2.1, (0, v4))).bind fun v5 =>
  let v6 : Bool := !v5
  bif v6 then (
    (impl_copyInts v0.2.2.1).bind fun v7 =>
    some (v7, false)) else
  (gget 0 v0.2.1 v0.2.2.2.1).bind fun v7 =>
  (impl_TileKind (v0.1, v0.2.2.2.2)).bind fun v8 =>
  (impl_BlockTile v7).bind fun v9 =>
  let v10 : Bool := decide (v8 ≠ v9)
  bif v10 then (
    (impl_copyInts v0.2.2.1).bind fun v11 =>
    some (v11, false)) else
  (impl_tryMove v0.2.2).bind fun v11 =>
  some (v11, true)
noncomputable def spec_Anneal (v0 : ((Int × (Int × (Int × Int))) × (List Int × (List (Int × ((Int × Int) × List (Int × Int))) × (List Int × (Int × Int)))))) : Option (List Int) :=
  (spec_PlaceCost (v0.1, (v0.2.2.2.1, v0.2.2.1))).bind fun v1 =>
  (spec_PlaceOk (v0.1, (v0.2.1, v0.2.2.2.1))).bind fun v2 =>
  let v3 : Bool := !v2
  bif v3 then (
    some ([] : List Int)) else
  let v4 : Bool := decide (v1 < 0)
  bif v4 then (
    some ([] : List Int)) else
  (spec_l01In (v0.2.2.2.2.2, (0, 200))).bind fun v5 =>
  let v6 : Bool := !v5
  bif v6 then (
    some ([] : List Int)) else
  (gapp 8 ([] : List Int) v0.2.2.2.1).bind fun v7 =>
  (gapp 8 ([] : List Int) v0.2.2.2.1).bind fun v8 =>
  joinO (
    Pu.loop (fun (v9 : (Int × (Int × (Int × (Int × (Int × (List Int × List Int))))))) =>
      let v10 : Bool := decide (v9.2.2.2.2.1 < v0.2.2.2.2.2)
      bif v10 then (
        let v11 : Int := ((v0.2.1).length : Int)
        let v12 : Bool := decide (0 < v11)
        bif v12 then (
          (spec_NextRandom v9.1).bind fun v13 =>
          (gdiv .i64 v13 256).bind fun v14 =>
          let v15 : Int := ((v0.2.1).length : Int)
          (grem v14 v15).bind fun v16 =>
          (spec_NextRandom v13).bind fun v17 =>
          (gget 0 v0.2.1 v16).bind fun v18 =>
          (spec_BlockTile v18).bind fun v19 =>
          (spec_TilesOf (v0.1, v19)).bind fun v20 =>
          (gdiv .i64 v17 256).bind fun v21 =>
          let v22 : Int := ((v20).length : Int)
          (grem v21 v22).bind fun v23 =>
          (gin (v20).length v23).bind fun _ =>
          (gget 0 v20 v23).bind fun v25 =>
          (spec_NextRandom v17).bind fun v26 =>
          (spec_TryMove (v0.1, (v0.2.1, (v9.2.2.2.2.2.2, (v16, v25))))).bind fun v27 =>
          (spec_PlaceCost (v0.1, (v27.1, v0.2.2.1))).bind fun v28 =>
          let v29 : Bool := decide (v28 ≤ v9.2.1)
          bif v29 then (
            let v30 : Bool := decide (v28 < v9.2.2.1)
            bif v30 then (
              (gapp 8 ([] : List Int) v27.1).bind fun v31 =>
              let v32 : Int := wrap .i64 (v9.2.2.2.1 * 97)
              (gdiv .i64 v32 100).bind fun v33 =>
              let v34 : Int := wrap .i64 (v9.2.2.2.2.1 + 1)
              some (.inl (v26, (v28, (v28, (v33, (v34, (v31, v27.1)))))))) else
            let v31 : Int := wrap .i64 (v9.2.2.2.1 * 97)
            (gdiv .i64 v31 100).bind fun v32 =>
            let v33 : Int := wrap .i64 (v9.2.2.2.2.1 + 1)
            some (.inl (v26, (v28, (v9.2.2.1, (v32, (v33, (v9.2.2.2.2.2.1, v27.1)))))))) else
          let v30 : Int := wrap .i64 (v28 - v9.2.1)
          let v31 : Int := wrap .i64 (10000 * v30)
          (gdiv .i64 v26 256).bind fun v32 =>
          (grem v32 100).bind fun v33 =>
          let v34 : Int := wrap .i64 (v9.2.2.2.1 * v33)
          let v35 : Bool := decide (v31 ≤ v34)
          bif v35 then (
            let v36 : Bool := decide (v28 < v9.2.2.1)
            bif v36 then (
              (gapp 8 ([] : List Int) v27.1).bind fun v37 =>
              let v38 : Int := wrap .i64 (v9.2.2.2.1 * 97)
              (gdiv .i64 v38 100).bind fun v39 =>
              let v40 : Int := wrap .i64 (v9.2.2.2.2.1 + 1)
              some (.inl (v26, (v28, (v28, (v39, (v40, (v37, v27.1)))))))) else
            let v37 : Int := wrap .i64 (v9.2.2.2.1 * 97)
            (gdiv .i64 v37 100).bind fun v38 =>
            let v39 : Int := wrap .i64 (v9.2.2.2.2.1 + 1)
            some (.inl (v26, (v28, (v9.2.2.1, (v38, (v39, (v9.2.2.2.2.2.1, v27.1)))))))) else
          let v36 : Bool := decide (v9.2.1 < v9.2.2.1)
          bif v36 then (
            (gapp 8 ([] : List Int) v9.2.2.2.2.2.2).bind fun v37 =>
            let v38 : Int := wrap .i64 (v9.2.2.2.1 * 97)
            (gdiv .i64 v38 100).bind fun v39 =>
            let v40 : Int := wrap .i64 (v9.2.2.2.2.1 + 1)
            some (.inl (v26, (v9.2.1, (v9.2.1, (v39, (v40, (v37, v9.2.2.2.2.2.2)))))))) else
          let v37 : Int := wrap .i64 (v9.2.2.2.1 * 97)
          (gdiv .i64 v37 100).bind fun v38 =>
          let v39 : Int := wrap .i64 (v9.2.2.2.2.1 + 1)
          some (.inl (v26, (v9.2.1, (v9.2.2.1, (v38, (v39, v9.2.2.2.2.2))))))) else
        Option.map Sum.inr (
          some (.inl v9.2.2.2.2.2.1))) else
      Option.map Sum.inr (
        some (.inl v9.2.2.2.2.2.1))) (v0.2.2.2.2.1, (v1, (v1, (1200, (0, (v7, v8))))))) (fun (v9 : List Int) =>
    some v9)
noncomputable def impl_Anneal (v0 : ((Int × (Int × (Int × Int))) × (List Int × (List (Int × ((Int × Int) × List (Int × Int))) × (List Int × (Int × Int)))))) : Option (List Int) :=
  (impl_PlaceCost (v0.1, (v0.2.2.2.1, v0.2.2.1))).bind fun v1 =>
  (impl_PlaceOk (v0.1, (v0.2.1, v0.2.2.2.1))).bind fun v2 =>
  let v3 : Bool := !v2
  bif v3 then (
    some ([] : List Int)) else
  let v4 : Bool := decide (v1 < 0)
  bif v4 then (
    some ([] : List Int)) else
  (impl_inRange (v0.2.2.2.2.2, (0, 200))).bind fun v5 =>
  let v6 : Bool := !v5
  bif v6 then (
    some ([] : List Int)) else
  (impl_copyInts v0.2.2.2.1).bind fun v7 =>
  (impl_copyInts v0.2.2.2.1).bind fun v8 =>
  joinO (
    Pu.loop (fun (v9 : (Int × (Int × (Int × (Int × (Int × (List Int × List Int))))))) =>
      let v10 : Bool := decide (v9.2.2.2.2.1 < v0.2.2.2.2.2)
      bif v10 then (
        let v11 : Int := ((v0.2.1).length : Int)
        let v12 : Bool := decide (0 < v11)
        bif v12 then (
          (impl_NextRandom v9.1).bind fun v13 =>
          (gdiv .i64 v13 256).bind fun v14 =>
          let v15 : Int := ((v0.2.1).length : Int)
          (grem v14 v15).bind fun v16 =>
          (gget 0 v0.2.1 v16).bind fun v17 =>
          (impl_BlockTile v17).bind fun v18 =>
          (impl_TilesOf (v0.1, v18)).bind fun v19 =>
          (impl_NextRandom v13).bind fun v20 =>
          (gdiv .i64 v20 256).bind fun v21 =>
          let v22 : Int := ((v19).length : Int)
          (grem v21 v22).bind fun v23 =>
          (gin (v19).length v23).bind fun _ =>
          (gget 0 v19 v23).bind fun v25 =>
          (impl_NextRandom v20).bind fun v26 =>
          (gdiv .i64 v26 256).bind fun v27 =>
          (grem v27 100).bind fun v28 =>
          (impl_tryMove (v9.2.2.2.2.2.1, (v16, v25))).bind fun v29 =>
          (impl_PlaceCost (v0.1, (v29, v0.2.2.1))).bind fun v30 =>
          let v31 : Bool := decide (v30 ≤ v9.2.1)
          bif v31 then (
            let v32 : Bool := decide (v30 < v9.2.2.1)
            bif v32 then (
              (impl_copyInts v29).bind fun v33 =>
              let v34 : Int := wrap .i64 (v9.2.2.2.1 * 97)
              (gdiv .i64 v34 100).bind fun v35 =>
              let v36 : Int := wrap .i64 (v9.2.2.2.2.1 + 1)
              some (.inl (v26, (v30, (v30, (v35, (v36, (v29, v33)))))))) else
            let v33 : Int := wrap .i64 (v9.2.2.2.1 * 97)
            (gdiv .i64 v33 100).bind fun v34 =>
            let v35 : Int := wrap .i64 (v9.2.2.2.2.1 + 1)
            some (.inl (v26, (v30, (v9.2.2.1, (v34, (v35, (v29, v9.2.2.2.2.2.2)))))))) else
          let v32 : Int := wrap .i64 (v30 - v9.2.1)
          let v33 : Int := wrap .i64 (10000 * v32)
          let v34 : Int := wrap .i64 (v9.2.2.2.1 * v28)
          let v35 : Bool := decide (v33 ≤ v34)
          bif v35 then (
            let v36 : Bool := decide (v30 < v9.2.2.1)
            bif v36 then (
              (impl_copyInts v29).bind fun v37 =>
              let v38 : Int := wrap .i64 (v9.2.2.2.1 * 97)
              (gdiv .i64 v38 100).bind fun v39 =>
              let v40 : Int := wrap .i64 (v9.2.2.2.2.1 + 1)
              some (.inl (v26, (v30, (v30, (v39, (v40, (v29, v37)))))))) else
            let v37 : Int := wrap .i64 (v9.2.2.2.1 * 97)
            (gdiv .i64 v37 100).bind fun v38 =>
            let v39 : Int := wrap .i64 (v9.2.2.2.2.1 + 1)
            some (.inl (v26, (v30, (v9.2.2.1, (v38, (v39, (v29, v9.2.2.2.2.2.2)))))))) else
          let v36 : Bool := decide (v9.2.1 < v9.2.2.1)
          bif v36 then (
            (impl_copyInts v9.2.2.2.2.2.1).bind fun v37 =>
            let v38 : Int := wrap .i64 (v9.2.2.2.1 * 97)
            (gdiv .i64 v38 100).bind fun v39 =>
            let v40 : Int := wrap .i64 (v9.2.2.2.2.1 + 1)
            some (.inl (v26, (v9.2.1, (v9.2.1, (v39, (v40, (v9.2.2.2.2.2.1, v37)))))))) else
          let v37 : Int := wrap .i64 (v9.2.2.2.1 * 97)
          (gdiv .i64 v37 100).bind fun v38 =>
          let v39 : Int := wrap .i64 (v9.2.2.2.2.1 + 1)
          some (.inl (v26, (v9.2.1, (v9.2.2.1, (v38, (v39, v9.2.2.2.2.2))))))) else
        Option.map Sum.inr (
          some (.inl v9.2.2.2.2.2.2))) else
      Option.map Sum.inr (
        some (.inl v9.2.2.2.2.2.2))) (v0.2.2.2.2.1, (v1, (v1, (1200, (0, (v7, v8))))))) (fun (v9 : List Int) =>
    some v9)
noncomputable def laws_FnExactTryMove (v0 : ((Int × (Int × (Int × Int))) × (List Int × (List Int × (Int × Int))))) : Option Bool :=
  let v1 : Int := ((v0.2.1).length : Int)
  let v2 : Bool := decide (1048576 < v1)
  bif v2 then (
    some true) else
  let v3 : Int := ((v0.2.2.1).length : Int)
  let v4 : Bool := decide (1048576 < v3)
  bif v4 then (
    some true) else
  (laws_toDevice v0.1).bind fun v5 =>
  (laws_toIntS v0.2.1).bind fun v6 =>
  (laws_toIntS v0.2.2.1).bind fun v7 =>
  (spec_TryMove (v5, (v6, (v7, v0.2.2.2)))).bind fun v8 =>
  (laws_toIntS v0.2.1).bind fun v9 =>
  (laws_toIntS v0.2.2.1).bind fun v10 =>
  (laws_toDevice v0.1).bind fun v11 =>
  (impl_TryMove (v11, (v9, (v10, v0.2.2.2)))).bind fun v12 =>
  (laws_eqIntS (v12.1, v8.1)).bind fun v13 =>
  let v14 : Bool := !v13
  bif v14 then (
    some false) else
  let v15 : Bool := (true ^^ (v12.2 == v8.2))
  bif v15 then (
    some false) else
  (laws_toIntS v0.2.1).bind fun v16 =>
  (laws_eqIntS (v9, v16)).bind fun v17 =>
  let v18 : Bool := !v17
  bif v18 then (
    some false) else
  (laws_toIntS v0.2.2.1).bind fun v19 =>
  (laws_eqIntS (v10, v19)).bind fun v20 =>
  let v21 : Bool := !v20
  bif v21 then (
    some false) else
  (laws_markIntS (v9, 1)).bind fun v22 =>
  (laws_markIntS (v10, v22.1)).bind fun v23 =>
  let v24 : Bool := decide (v23.1 < 0)
  bif v24 then (
    some false) else
  (laws_eqIntS (v12.1, v8.1)).bind fun v25 =>
  let v26 : Bool := !v25
  bif v26 then (
    some false) else
  let v27 : Bool := (true ^^ (v12.2 == v8.2))
  bif v27 then (
    some false) else
  (laws_markIntS (v12.1, 1)).bind fun v28 =>
  (laws_heldIntS (v28.2, 1)).bind fun v29 =>
  let v30 : Bool := decide (v29 < 0)
  bif v30 then (
    some false) else
  let v31 : Bool := decide (v29 ≠ v28.1)
  bif v31 then (
    some false) else
  (laws_toDevice v0.1).bind fun v32 =>
  (laws_toIntS v0.2.1).bind fun v33 =>
  (laws_toIntS v0.2.2.1).bind fun v34 =>
  (impl_TryMove (v32, (v33, (v34, v0.2.2.2)))).bind fun v35 =>
  (laws_eqIntS (v35.1, v8.1)).bind fun v36 =>
  let v37 : Bool := !v36
  bif v37 then (
    some false) else
  let v38 : Bool := (true ^^ (v35.2 == v8.2))
  bif v38 then (
    some false) else
  (laws_heldIntS (v28.2, 1)).bind fun v39 =>
  let v40 : Bool := decide (v39 < 0)
  bif v40 then (
    some false) else
  let v41 : Bool := decide (v39 ≠ v28.1)
  bif v41 then (
    some false) else
  some true
noncomputable def laws_FnExactAnneal (v0 : ((Int × (Int × (Int × Int))) × (List Int × (List (Int × ((Int × Int) × List (Int × Int))) × (List Int × (Int × Int)))))) : Option Bool :=
  let v1 : Int := ((v0.2.1).length : Int)
  let v2 : Bool := decide (1048576 < v1)
  bif v2 then (
    some true) else
  let v3 : Int := ((v0.2.2.2.1).length : Int)
  let v4 : Bool := decide (1048576 < v3)
  bif v4 then (
    some true) else
  (laws_szConnS (v0.2.2.1, 1048576)).bind fun v5 =>
  let v6 : Bool := decide (v5 < 0)
  bif v6 then (
    some true) else
  (laws_toDevice v0.1).bind fun v7 =>
  (laws_toIntS v0.2.1).bind fun v8 =>
  (laws_toConnS v0.2.2.1).bind fun v9 =>
  (laws_toIntS v0.2.2.2.1).bind fun v10 =>
  (spec_Anneal (v7, (v8, (v9, (v10, v0.2.2.2.2))))).bind fun v11 =>
  (laws_toIntS v0.2.1).bind fun v12 =>
  (laws_toConnS v0.2.2.1).bind fun v13 =>
  (laws_toIntS v0.2.2.2.1).bind fun v14 =>
  (laws_toDevice v0.1).bind fun v15 =>
  (impl_Anneal (v15, (v12, (v13, (v14, v0.2.2.2.2))))).bind fun v16 =>
  (laws_eqIntS (v16, v11)).bind fun v17 =>
  let v18 : Bool := !v17
  bif v18 then (
    some false) else
  (laws_toIntS v0.2.1).bind fun v19 =>
  (laws_eqIntS (v12, v19)).bind fun v20 =>
  let v21 : Bool := !v20
  bif v21 then (
    some false) else
  (laws_toConnS v0.2.2.1).bind fun v22 =>
  (laws_eqConnS (v13, v22)).bind fun v23 =>
  let v24 : Bool := !v23
  bif v24 then (
    some false) else
  (laws_toIntS v0.2.2.2.1).bind fun v25 =>
  (laws_eqIntS (v14, v25)).bind fun v26 =>
  let v27 : Bool := !v26
  bif v27 then (
    some false) else
  (laws_markIntS (v12, 1)).bind fun v28 =>
  (laws_markConnS (v13, v28.1)).bind fun v29 =>
  (laws_markIntS (v14, v29.1)).bind fun v30 =>
  let v31 : Bool := decide (v30.1 < 0)
  bif v31 then (
    some false) else
  (laws_eqIntS (v16, v11)).bind fun v32 =>
  let v33 : Bool := !v32
  bif v33 then (
    some false) else
  (laws_markIntS (v16, 1)).bind fun v34 =>
  (laws_heldIntS (v34.2, 1)).bind fun v35 =>
  let v36 : Bool := decide (v35 < 0)
  bif v36 then (
    some false) else
  let v37 : Bool := decide (v35 ≠ v34.1)
  bif v37 then (
    some false) else
  (laws_toDevice v0.1).bind fun v38 =>
  (laws_toIntS v0.2.1).bind fun v39 =>
  (laws_toConnS v0.2.2.1).bind fun v40 =>
  (laws_toIntS v0.2.2.2.1).bind fun v41 =>
  (impl_Anneal (v38, (v39, (v40, (v41, v0.2.2.2.2))))).bind fun v42 =>
  (laws_eqIntS (v42, v11)).bind fun v43 =>
  let v44 : Bool := !v43
  bif v44 then (
    some false) else
  (laws_heldIntS (v34.2, 1)).bind fun v45 =>
  let v46 : Bool := decide (v45 < 0)
  bif v46 then (
    some false) else
  let v47 : Bool := decide (v45 ≠ v34.1)
  bif v47 then (
    some false) else
  some true
noncomputable def laws_szPointS (v0 : (List (Int × Int) × Int)) : Option Int :=
  let v1 : Int := ((v0.1).length : Int)
  let v2 : Int := wrap .i64 (v0.2 - v1)
  let v3 : Bool := decide (v2 < 0)
  bif v3 then (
    some (-1)) else
  some v2
noncomputable def laws_szArcS (v0 : (List (Int × (Int × Int)) × Int)) : Option Int :=
  let v1 : Int := ((v0.1).length : Int)
  let v2 : Int := wrap .i64 (v0.2 - v1)
  let v3 : Bool := decide (v2 < 0)
  bif v3 then (
    some (-1)) else
  some v2
noncomputable def laws_toPoint (v0 : (Int × Int)) : Option (Int × Int) :=
  some v0
noncomputable def laws_eqPoint (v0 : ((Int × Int) × (Int × Int))) : Option Bool :=
  let v1 : Bool := decide (v0.1.1 ≠ v0.2.1)
  bif v1 then (
    some false) else
  let v2 : Bool := decide (v0.1.2 ≠ v0.2.2)
  bif v2 then (
    some false) else
  some true
noncomputable def laws_toArc (v0 : (Int × (Int × Int))) : Option (Int × (Int × Int)) :=
  some v0
noncomputable def laws_eqArc (v0 : ((Int × (Int × Int)) × (Int × (Int × Int)))) : Option Bool :=
  let v1 : Bool := decide (v0.1.1 ≠ v0.2.1)
  bif v1 then (
    some false) else
  let v2 : Bool := decide (v0.1.2.1 ≠ v0.2.2.1)
  bif v2 then (
    some false) else
  let v3 : Bool := decide (v0.1.2.2 ≠ v0.2.2.2)
  bif v3 then (
    some false) else
  some true
noncomputable def laws_szTimingGraph (v0 : ((Int × List (Int × (Int × Int))) × Int)) : Option Int :=
  (laws_szArcS (v0.1.2, v0.2)).bind fun v1 =>
  let v2 : Bool := decide (v1 < 0)
  bif v2 then (
    some (-1)) else
  some v1
noncomputable def laws_toPointS (v0 : List (Int × Int)) : Option (List (Int × Int)) :=
  let v1 : Int := ((v0).length : Int)
  (gmake 16 ((0, 0) : (Int × Int)) v1).bind fun v2 =>
  Pu.loop (fun (v3 : (Int × List (Int × Int))) =>
    let v4 : Int := ((v0).length : Int)
    let v5 : Bool := decide (v3.1 < v4)
    bif v5 then (
      (gget (0, 0) v0 v3.1).bind fun v6 =>
      (laws_toPoint v6).bind fun v7 =>
      (gin (v3.2).length v3.1).bind fun _ =>
      (gget (0, 0) v3.2 v3.1).bind fun v9 =>
      let v10 : (Int × Int) := v7
      let v11 : List (Int × Int) := gset v3.2 v3.1 v10
      let v12 : Int := wrap .i64 (v3.1 + 1)
      some (.inl (v12, v11))) else
    Option.map Sum.inr (
      some v3.2)) (0, v2)
noncomputable def laws_eqPointS (v0 : (List (Int × Int) × List (Int × Int))) : Option Bool :=
  let v1 : Int := ((v0.1).length : Int)
  let v2 : Int := ((v0.2).length : Int)
  let v3 : Bool := decide (v1 ≠ v2)
  bif v3 then (
    some false) else
  Pu.loop (fun (v4 : Int) =>
    let v5 : Int := ((v0.1).length : Int)
    let v6 : Bool := decide (v4 < v5)
    bif v6 then (
      (gget (0, 0) v0.1 v4).bind fun v7 =>
      (gget (0, 0) v0.2 v4).bind fun v8 =>
      (laws_eqPoint (v7, v8)).bind fun v9 =>
      let v10 : Bool := !v9
      bif v10 then (
        Option.map Sum.inr (
          some false)) else
      let v11 : Int := wrap .i64 (v4 + 1)
      some (.inl v11)) else
    Option.map Sum.inr (
      some true)) 0
noncomputable def laws_toArcS (v0 : List (Int × (Int × Int))) : Option (List (Int × (Int × Int))) :=
  let v1 : Int := ((v0).length : Int)
  (gmake 24 ((0, (0, 0)) : (Int × (Int × Int))) v1).bind fun v2 =>
  Pu.loop (fun (v3 : (Int × List (Int × (Int × Int)))) =>
    let v4 : Int := ((v0).length : Int)
    let v5 : Bool := decide (v3.1 < v4)
    bif v5 then (
      (gget (0, (0, 0)) v0 v3.1).bind fun v6 =>
      (laws_toArc v6).bind fun v7 =>
      (gin (v3.2).length v3.1).bind fun _ =>
      (gget (0, (0, 0)) v3.2 v3.1).bind fun v9 =>
      let v10 : (Int × (Int × Int)) := v7
      let v11 : List (Int × (Int × Int)) := gset v3.2 v3.1 v10
      let v12 : Int := wrap .i64 (v3.1 + 1)
      some (.inl (v12, v11))) else
    Option.map Sum.inr (
      some v3.2)) (0, v2)
noncomputable def laws_eqArcS (v0 : (List (Int × (Int × Int)) × List (Int × (Int × Int)))) : Option Bool :=
  let v1 : Int := ((v0.1).length : Int)
  let v2 : Int := ((v0.2).length : Int)
  let v3 : Bool := decide (v1 ≠ v2)
  bif v3 then (
    some false) else
  Pu.loop (fun (v4 : Int) =>
    let v5 : Int := ((v0.1).length : Int)
    let v6 : Bool := decide (v4 < v5)
    bif v6 then (
      (gget (0, (0, 0)) v0.1 v4).bind fun v7 =>
      (gget (0, (0, 0)) v0.2 v4).bind fun v8 =>
      (laws_eqArc (v7, v8)).bind fun v9 =>
      let v10 : Bool := !v9
      bif v10 then (
        Option.map Sum.inr (
          some false)) else
      let v11 : Int := wrap .i64 (v4 + 1)
      some (.inl v11)) else
    Option.map Sum.inr (
      some true)) 0
noncomputable def laws_toTimingGraph (v0 : (Int × List (Int × (Int × Int)))) : Option (Int × List (Int × (Int × Int))) :=
  (laws_toArcS v0.2).bind fun v1 =>
  some (v0.1, v1)
noncomputable def laws_eqTimingGraph (v0 : ((Int × List (Int × (Int × Int))) × (Int × List (Int × (Int × Int))))) : Option Bool :=
  let v1 : Bool := decide (v0.1.1 ≠ v0.2.1)
  bif v1 then (
    some false) else
  (laws_eqArcS (v0.1.2, v0.2.2)).bind fun v2 =>
  let v3 : Bool := !v2
  bif v3 then (
    some false) else
  some true
noncomputable def spec_l27Per (v0 : (Int × (Int × (Int × Int)))) : Option Int :=
  let v1 : Int := wrap .i64 (4 * v0.2.2.1)
  let v2 : Int := wrap .i64 (7 + v1)
  some v2
noncomputable def spec_InPins (v0 : Int) : Option Int :=
  let v1 : Bool := decide (v0 = 0)
  bif v1 then (
    some 1) else
  let v2 : Bool := decide (v0 = 1)
  bif v2 then (
    some 5) else
  let v3 : Bool := decide (v0 = 2)
  bif v3 then (
    some 4) else
  some 0
noncomputable def spec_OutPins (v0 : Int) : Option Int :=
  let v1 : Bool := decide (v0 = 0)
  bif v1 then (
    bif v1 then (
      some 1) else
    let v2 : Bool := decide (v0 = 1)
    bif v2 then (
      some 2) else
    some 0) else
  let v2 : Bool := decide (v0 = 2)
  bif v2 then (
    some 1) else
  let v3 : Bool := decide (v0 = 1)
  bif v3 then (
    some 2) else
  some 0
noncomputable def impl_InPins (v0 : Int) : Option Int :=
  let v1 : Bool := decide (v0 = 0)
  bif v1 then (
    some 1) else
  let v2 : Bool := decide (v0 = 1)
  bif v2 then (
    some 5) else
  let v3 : Bool := decide (v0 = 2)
  bif v3 then (
    some 4) else
  some 0
noncomputable def impl_OutPins (v0 : Int) : Option Int :=
  let v1 : Bool := decide (v0 = 0)
  bif v1 then (
    bif v1 then (
      some 1) else
    let v2 : Bool := decide (v0 = 1)
    bif v2 then (
      some 2) else
    some 0) else
  let v2 : Bool := decide (v0 = 2)
  bif v2 then (
    some 1) else
  let v3 : Bool := decide (v0 = 1)
  bif v3 then (
    some 2) else
  some 0
noncomputable def impl_wireLength (v0 : Int) : Option Int :=
  (grem v0 2).bind fun v1 =>
  let v2 : Int := wrap .i64 (1 + v1)
  some v2
noncomputable def spec_l34Load (v0 : (Int × (List (List Int × List Int) × Int))) : Option (List Int) :=
  (gmake 8 (0 : Int) v0.1).bind fun v1 =>
  Pu.loop (fun (v2 : (Int × List Int)) =>
    let v3 : Int := ((v0.2.1).length : Int)
    let v4 : Bool := decide (v2.1 < v3)
    bif v4 then (
      let v5 : Bool := decide (v2.1 = v0.2.2)
      bif v5 then (
        let v6 : Int := wrap .i64 (v2.1 + 1)
        some (.inl (v6, v2.2))) else
      (gmake 1 (false : Bool) v0.1).bind fun v6 =>
      Pu.loop (fun (v7 : (Int × (List Int × List Bool))) =>
        (gget ([], []) v0.2.1 v2.1).bind fun v8 =>
        let v9 : Int := ((v8.1).length : Int)
        let v10 : Bool := decide (v7.1 < v9)
        bif v10 then (
          (gget ([], []) v0.2.1 v2.1).bind fun v11 =>
          (gget 0 v11.1 v7.1).bind fun v12 =>
          let v13 : Bool := decide (0 ≤ v12)
          bif v13 then (
            let v14 : Bool := decide (v12 < v0.1)
            bif v14 then (
              (gin (v7.2.2).length v12).bind fun _ =>
              (gget false v7.2.2 v12).bind fun v16 =>
              let v17 : Bool := !v16
              bif v17 then (
                (gin (v7.2.2).length v12).bind fun _ =>
                (gget false v7.2.2 v12).bind fun v19 =>
                let v20 : Bool := true
                let v21 : List Bool := gset v7.2.2 v12 v20
                (gin (v7.2.1).length v12).bind fun _ =>
                (gget 0 v7.2.1 v12).bind fun v23 =>
                let v24 : Int := wrap .i64 (v23 + 1)
                (gin (v7.2.1).length v12).bind fun _ =>
                (gget 0 v7.2.1 v12).bind fun v26 =>
                let v27 : Int := v24
                let v28 : List Int := gset v7.2.1 v12 v27
                let v29 : Int := wrap .i64 (v7.1 + 1)
                some (.inl (v29, (v28, v21)))) else
              let v18 : Int := wrap .i64 (v7.1 + 1)
              some (.inl (v18, v7.2))) else
            let v15 : Int := wrap .i64 (v7.1 + 1)
            some (.inl (v15, v7.2))) else
          let v14 : Int := wrap .i64 (v7.1 + 1)
          some (.inl (v14, v7.2))) else
        Option.map Sum.inr (
          let v11 : Int := wrap .i64 (v2.1 + 1)
          some (.inl (v11, v7.2.1)))) (0, (v2.2, v6))) else
    Option.map Sum.inr (
      some v2.2)) (0, v1)
noncomputable def impl_perTile (v0 : (Int × (Int × (Int × Int)))) : Option Int :=
  let v1 : Int := wrap .i64 (4 * v0.2.2.1)
  let v2 : Int := wrap .i64 (7 + v1)
  some v2
noncomputable def laws_markConn (v0 : ((Int × ((Int × Int) × List (Int × Int))) × Int)) : Option (Int × List (Int × Int)) :=
  (laws_markPinS (v0.1.2.2, v0.2)).bind fun v1 =>
  some v1
noncomputable def laws_markRouteS (v0 : (List (List Int × List Int) × Int)) : Option (Int × List (List Int × List Int)) :=
  Pu.loop (fun (v1 : (Int × (Int × List (List Int × List Int)))) =>
    let v2 : Int := ((v1.2.2).length : Int)
    let v3 : Bool := decide (v1.2.1 < v2)
    bif v3 then (
      (gin (v1.2.2).length v1.2.1).bind fun _ =>
      (gget ([], []) v1.2.2 v1.2.1).bind fun v5 =>
      (gget ([], []) v1.2.2 v1.2.1).bind fun v6 =>
      (laws_markIntS (v6.1, v1.1)).bind fun v7 =>
      (gget ([], []) v1.2.2 v1.2.1).bind fun v8 =>
      let v9 : (List Int × List Int) := (v7.2, v8.2)
      let v10 : List (List Int × List Int) := gset v1.2.2 v1.2.1 v9
      (gin (v10).length v1.2.1).bind fun _ =>
      (gget ([], []) v10 v1.2.1).bind fun v12 =>
      (gget ([], []) v10 v1.2.1).bind fun v13 =>
      (laws_markIntS (v13.2, v7.1)).bind fun v14 =>
      (gget ([], []) v10 v1.2.1).bind fun v15 =>
      let v16 : (List Int × List Int) := (v15.1, v14.2)
      let v17 : List (List Int × List Int) := gset v10 v1.2.1 v16
      let v18 : Int := wrap .i64 (v1.2.1 + 1)
      some (.inl (v14.1, (v18, v17)))) else
    Option.map Sum.inr (
      some (v1.1, v1.2.2))) (v0.2, (0, v0.1))
noncomputable def spec_l27Wire (v0 : ((Int × (Int × (Int × Int))) × Int)) : Option (Int × Int) :=
  (spec_l27Per v0.1).bind fun v1 =>
  (grem v0.2 v1).bind fun v2 =>
  let v3 : Int := wrap .i64 (v2 - 7)
  (gdiv .i64 v3 v0.1.2.2.1).bind fun v4 =>
  (grem v3 v0.1.2.2.1).bind fun v5 =>
  some (v4, v5)
noncomputable def impl_routeNodes (v0 : (Int × (Int × (Int × Int)))) : Option Int :=
  let v1 : Int := wrap .i64 (v0.1 * v0.2.1)
  (impl_perTile v0).bind fun v2 =>
  let v3 : Int := wrap .i64 (v1 * v2)
  some v3
noncomputable def impl_nodePlace (v0 : ((Int × (Int × (Int × Int))) × Int)) : Option (Int × Int) :=
  (impl_perTile v0.1).bind fun v1 =>
  (gdiv .i64 v0.2 v1).bind fun v2 =>
  (impl_perTile v0.1).bind fun v3 =>
  (grem v0.2 v3).bind fun v4 =>
  some (v2, v4)
noncomputable def impl_tileStep (v0 : ((Int × (Int × (Int × Int))) × (Int × (Int × Int)))) : Option Int :=
  (grem v0.2.1 v0.1.1).bind fun v1 =>
  (gdiv .i64 v0.2.1 v0.1.1).bind fun v2 =>
  joinO (
    let v3 : Bool := decide (v0.2.2.1 = 0)
    bif v3 then (
      let v4 : Int := wrap .i64 (v1 + v0.2.2.2)
      some (.inl (v4, v2))) else
    let v4 : Bool := decide (v0.2.2.1 = 1)
    bif v4 then (
      let v5 : Int := wrap .i64 (v2 + v0.2.2.2)
      some (.inl (v1, v5))) else
    let v5 : Bool := decide (v0.2.2.1 = 2)
    bif v5 then (
      let v6 : Int := wrap .i64 (v1 - v0.2.2.2)
      some (.inl (v6, v2))) else
    let v6 : Int := wrap .i64 (v2 - v0.2.2.2)
    some (.inl (v1, v6))) (fun (v3 : (Int × Int)) =>
    let v4 : Int := wrap .i64 (v0.1.1 - 1)
    (impl_inRange (v3.1, (0, v4))).bind fun v5 =>
    let v6 : Bool := !v5
    bif v6 then (
      some (-1)) else
    let v7 : Int := wrap .i64 (v0.1.2.1 - 1)
    (impl_inRange (v3.2, (0, v7))).bind fun v8 =>
    let v9 : Bool := !v8
    bif v9 then (
      some (-1)) else
    let v10 : Int := wrap .i64 (v3.2 * v0.1.1)
    let v11 : Int := wrap .i64 (v10 + v3.1)
    some v11)
noncomputable def impl_usage (v0 : (Int × List (List Int × List Int))) : Option (List Int) :=
  (gmake 8 (0 : Int) v0.1).bind fun v1 =>
  let v2 : Int := ((v0.2).length : Int)
  Pu.loop (fun (v3 : (Int × List Int)) =>
    let v4 : Bool := decide (v3.1 < v2)
    bif v4 then (
      (gget ([], []) v0.2 v3.1).bind fun v5 =>
      let v6 : Int := ((v5.1).length : Int)
      Pu.loop (fun (v7 : (Int × (List Int × List (Int × Bool)))) =>
        let v8 : Bool := decide (v7.1 < v6)
        bif v8 then (
          (gget 0 v5.1 v7.1).bind fun v9 =>
          let v10 : Int := wrap .i64 (v0.1 - 1)
          (impl_inRange (v9, (0, v10))).bind fun v11 =>
          bif v11 then (
            let v12 : Bool := mget v7.2.2 v9
            let v13 : Bool := !v12
            bif v13 then (
              let v14 : List (Int × Bool) := mset v7.2.2 v9 true
              (gin (v7.2.1).length v9).bind fun _ =>
              (gget 0 v7.2.1 v9).bind fun v16 =>
              let v17 : Int := wrap .i64 (v16 + 1)
              (gin (v7.2.1).length v9).bind fun _ =>
              (gget 0 v7.2.1 v9).bind fun v19 =>
              let v20 : Int := v17
              let v21 : List Int := gset v7.2.1 v9 v20
              let v22 : Int := wrap .i64 (v7.1 + 1)
              some (.inl (v22, (v21, v14)))) else
            let v14 : Int := wrap .i64 (v7.1 + 1)
            some (.inl (v14, v7.2))) else
          let v12 : Int := wrap .i64 (v7.1 + 1)
          some (.inl (v12, v7.2))) else
        Option.map Sum.inr (
          let v9 : Int := wrap .i64 (v3.1 + 1)
          some (.inl (v9, v7.2.1)))) (0, (v3.2, ([] : List (Int × Bool))))) else
    Option.map Sum.inr (
      some v3.2)) (0, v1)
noncomputable def laws_szRouteS (v0 : (List (List Int × List Int) × Int)) : Option Int :=
  let v1 : Int := ((v0.1).length : Int)
  let v2 : Int := wrap .i64 (v0.2 - v1)
  let v3 : Bool := decide (v2 < 0)
  bif v3 then (
    some (-1)) else
  Pu.loop (fun (v4 : (Int × Int)) =>
    let v5 : Int := ((v0.1).length : Int)
    let v6 : Bool := decide (v4.2 < v5)
    bif v6 then (
      (gget ([], []) v0.1 v4.2).bind fun v7 =>
      (laws_szRoute (v7, v4.1)).bind fun v8 =>
      let v9 : Bool := decide (v8 < 0)
      bif v9 then (
        Option.map Sum.inr (
          some (-1))) else
      let v10 : Int := wrap .i64 (v4.2 + 1)
      some (.inl (v8, v10))) else
    Option.map Sum.inr (
      some v4.1)) (v2, 0)
noncomputable def laws_toRouteS (v0 : List (List Int × List Int)) : Option (List (List Int × List Int)) :=
  let v1 : Int := ((v0).length : Int)
  (gmake 48 (([], []) : (List Int × List Int)) v1).bind fun v2 =>
  Pu.loop (fun (v3 : (Int × List (List Int × List Int))) =>
    let v4 : Int := ((v0).length : Int)
    let v5 : Bool := decide (v3.1 < v4)
    bif v5 then (
      (gget ([], []) v0 v3.1).bind fun v6 =>
      (laws_toRoute v6).bind fun v7 =>
      (gin (v3.2).length v3.1).bind fun _ =>
      (gget ([], []) v3.2 v3.1).bind fun v9 =>
      let v10 : (List Int × List Int) := v7
      let v11 : List (List Int × List Int) := gset v3.2 v3.1 v10
      let v12 : Int := wrap .i64 (v3.1 + 1)
      some (.inl (v12, v11))) else
    Option.map Sum.inr (
      some v3.2)) (0, v2)
noncomputable def laws_eqRouteS (v0 : (List (List Int × List Int) × List (List Int × List Int))) : Option Bool :=
  let v1 : Int := ((v0.1).length : Int)
  let v2 : Int := ((v0.2).length : Int)
  let v3 : Bool := decide (v1 ≠ v2)
  bif v3 then (
    some false) else
  Pu.loop (fun (v4 : Int) =>
    let v5 : Int := ((v0.1).length : Int)
    let v6 : Bool := decide (v4 < v5)
    bif v6 then (
      (gget ([], []) v0.1 v4).bind fun v7 =>
      (gget ([], []) v0.2 v4).bind fun v8 =>
      (laws_eqRoute (v7, v8)).bind fun v9 =>
      let v10 : Bool := !v9
      bif v10 then (
        Option.map Sum.inr (
          some false)) else
      let v11 : Int := wrap .i64 (v4 + 1)
      some (.inl v11)) else
    Option.map Sum.inr (
      some true)) 0
noncomputable def spec_RouteNodes (v0 : (Int × (Int × (Int × Int)))) : Option Int :=
  (spec_DeviceOk v0).bind fun v1 =>
  let v2 : Bool := !v1
  bif v2 then (
    some 0) else
  let v3 : Int := wrap .i64 (v0.1 * v0.2.1)
  (spec_l27Per v0).bind fun v4 =>
  let v5 : Int := wrap .i64 (v3 * v4)
  some v5
noncomputable def impl_wireOf (v0 : ((Int × (Int × (Int × Int))) × Int)) : Option (Int × (Int × (Int × Bool))) :=
  (impl_nodePlace v0).bind fun v1 =>
  let v2 : Int := wrap .i64 (v1.2 - 7)
  (gdiv .i64 v2 v0.1.2.2.1).bind fun v3 =>
  let v4 : Int := wrap .i64 (v1.2 - 7)
  (grem v4 v0.1.2.2.1).bind fun v5 =>
  let v6 : Bool := decide (7 ≤ v1.2)
  some (v1.1, (v3, (v5, v6)))
noncomputable def impl_RouteNodeOk (v0 : ((Int × (Int × (Int × Int))) × Int)) : Option Bool :=
  (impl_DeviceOk v0.1).bind fun v1 =>
  let v2 : Bool := !v1
  bif v2 then (
    some false) else
  (impl_routeNodes v0.1).bind fun v3 =>
  let v4 : Int := wrap .i64 (v3 - 1)
  (impl_inRange (v0.2, (0, v4))).bind fun v5 =>
  let v6 : Bool := !v5
  bif v6 then (
    some false) else
  (impl_nodePlace v0).bind fun v7 =>
  let v8 : Bool := decide (v7.2 < 5)
  bif v8 then (
    (impl_tileKind (v0.1, v7.1)).bind fun v9 =>
    (impl_InPins v9).bind fun v10 =>
    let v11 : Bool := decide (v7.2 < v10)
    some v11) else
  let v9 : Bool := decide (v7.2 < 7)
  bif v9 then (
    let v10 : Int := wrap .i64 (v7.2 - 5)
    (impl_tileKind (v0.1, v7.1)).bind fun v11 =>
    (impl_OutPins v11).bind fun v12 =>
    let v13 : Bool := decide (v10 < v12)
    some v13) else
  (impl_wireOf v0).bind fun v10 =>
  (impl_wireLength v10.2.2.1).bind fun v11 =>
  (impl_tileStep (v0.1, (v7.1, (v10.2.1, v11)))).bind fun v12 =>
  let v13 : Bool := decide (0 ≤ v12)
  some v13
noncomputable def spec_TileStep (v0 : ((Int × (Int × (Int × Int))) × (Int × (Int × Int)))) : Option Int :=
  (spec_TileKind (v0.1, v0.2.1)).bind fun v1 =>
  let v2 : Bool := decide (v1 < 0)
  bif v2 then (
    some (-1)) else
  (spec_l01In (v0.2.2.1, (0, 3))).bind fun v3 =>
  let v4 : Bool := !v3
  bif v4 then (
    some (-1)) else
  (spec_l01In (v0.2.2.2, (0, 6))).bind fun v5 =>
  let v6 : Bool := !v5
  bif v6 then (
    some (-1)) else
  (grem v0.2.1 v0.1.1).bind fun v7 =>
  let v8 : List Int := [1, 0, (-1), 0]
  (gin (v8).length v0.2.2.1).bind fun _ =>
  (gget 0 v8 v0.2.2.1).bind fun v10 =>
  let v11 : Int := wrap .i64 (v10 * v0.2.2.2)
  let v12 : Int := wrap .i64 (v7 + v11)
  (gdiv .i64 v0.2.1 v0.1.1).bind fun v13 =>
  let v14 : List Int := [0, 1, 0, (-1)]
  (gin (v14).length v0.2.2.1).bind fun _ =>
  (gget 0 v14 v0.2.2.1).bind fun v16 =>
  let v17 : Int := wrap .i64 (v16 * v0.2.2.2)
  let v18 : Int := wrap .i64 (v13 + v17)
  let v19 : Int := wrap .i64 (v0.1.1 - 1)
  (spec_l01In (v12, (0, v19))).bind fun v20 =>
  let v21 : Bool := !v20
  bif v21 then (
    some (-1)) else
  let v22 : Int := wrap .i64 (v0.1.2.1 - 1)
  (spec_l01In (v18, (0, v22))).bind fun v23 =>
  let v24 : Bool := !v23
  bif v24 then (
    some (-1)) else
  let v25 : Int := wrap .i64 (v18 * v0.1.1)
  let v26 : Int := wrap .i64 (v25 + v12)
  some v26
noncomputable def spec_OutPin (v0 : ((Int × (Int × (Int × Int))) × (Int × Int))) : Option Int :=
  let v1 : Bool := decide (v0.2.2 < 0)
  bif v1 then (
    some (-1)) else
  (spec_TileKind (v0.1, v0.2.1)).bind fun v2 =>
  (spec_OutPins v2).bind fun v3 =>
  let v4 : Bool := decide (v3 ≤ v0.2.2)
  bif v4 then (
    some (-1)) else
  (spec_l27Per v0.1).bind fun v5 =>
  let v6 : Int := wrap .i64 (v0.2.1 * v5)
  let v7 : Int := wrap .i64 (v6 + 5)
  let v8 : Int := wrap .i64 (v7 + v0.2.2)
  some v8
noncomputable def impl_OutPin (v0 : ((Int × (Int × (Int × Int))) × (Int × Int))) : Option Int :=
  (impl_tileOk (v0.1, v0.2.1)).bind fun v1 =>
  let v2 : Bool := !v1
  bif v2 then (
    some (-1)) else
  (impl_tileKind (v0.1, v0.2.1)).bind fun v3 =>
  (impl_OutPins v3).bind fun v4 =>
  let v5 : Int := wrap .i64 (v4 - 1)
  (impl_inRange (v0.2.2, (0, v5))).bind fun v6 =>
  let v7 : Bool := !v6
  bif v7 then (
    some (-1)) else
  (impl_perTile v0.1).bind fun v8 =>
  let v9 : Int := wrap .i64 (v0.2.1 * v8)
  let v10 : Int := wrap .i64 (v9 + 5)
  let v11 : Int := wrap .i64 (v10 + v0.2.2)
  some v11
noncomputable def spec_InPin (v0 : ((Int × (Int × (Int × Int))) × (Int × Int))) : Option Int :=
  let v1 : Bool := decide (v0.2.2 < 0)
  bif v1 then (
    some (-1)) else
  (spec_TileKind (v0.1, v0.2.1)).bind fun v2 =>
  (spec_InPins v2).bind fun v3 =>
  let v4 : Bool := decide (v3 ≤ v0.2.2)
  bif v4 then (
    some (-1)) else
  (spec_l27Per v0.1).bind fun v5 =>
  let v6 : Int := wrap .i64 (v0.2.1 * v5)
  let v7 : Int := wrap .i64 (v6 + v0.2.2)
  some v7
noncomputable def impl_InPin (v0 : ((Int × (Int × (Int × Int))) × (Int × Int))) : Option Int :=
  (impl_tileOk (v0.1, v0.2.1)).bind fun v1 =>
  let v2 : Bool := !v1
  bif v2 then (
    some (-1)) else
  (impl_tileKind (v0.1, v0.2.1)).bind fun v3 =>
  (impl_InPins v3).bind fun v4 =>
  let v5 : Int := wrap .i64 (v4 - 1)
  (impl_inRange (v0.2.2, (0, v5))).bind fun v6 =>
  let v7 : Bool := !v6
  bif v7 then (
    some (-1)) else
  (impl_perTile v0.1).bind fun v8 =>
  let v9 : Int := wrap .i64 (v0.2.1 * v8)
  let v10 : Int := wrap .i64 (v9 + v0.2.2)
  some v10
noncomputable def spec_RouteNodeOk (v0 : ((Int × (Int × (Int × Int))) × Int)) : Option Bool :=
  let v1 : Bool := decide (v0.2 < 0)
  bif v1 then (
    some false) else
  (spec_RouteNodes v0.1).bind fun v2 =>
  let v3 : Bool := decide (v2 ≤ v0.2)
  bif v3 then (
    some false) else
  (spec_l27Per v0.1).bind fun v4 =>
  (gdiv .i64 v0.2 v4).bind fun v5 =>
  (spec_l27Per v0.1).bind fun v6 =>
  (grem v0.2 v6).bind fun v7 =>
  let v8 : Bool := decide (v7 < 5)
  bif v8 then (
    (spec_TileKind (v0.1, v5)).bind fun v9 =>
    (spec_InPins v9).bind fun v10 =>
    let v11 : Bool := decide (v7 < v10)
    some v11) else
  let v9 : Bool := decide (v7 < 7)
  bif v9 then (
    let v10 : Int := wrap .i64 (v7 - 5)
    (spec_TileKind (v0.1, v5)).bind fun v11 =>
    (spec_OutPins v11).bind fun v12 =>
    let v13 : Bool := decide (v10 < v12)
    some v13) else
  (spec_l27Wire v0).bind fun v10 =>
  (grem v10.2 2).bind fun v11 =>
  let v12 : Int := wrap .i64 (1 + v11)
  (spec_TileStep (v0.1, (v5, (v10.1, v12)))).bind fun v13 =>
  let v14 : Bool := decide (0 ≤ v13)
  some v14
noncomputable def impl_IsWire (v0 : ((Int × (Int × (Int × Int))) × Int)) : Option Bool :=
  (impl_RouteNodeOk v0).bind fun v1 =>
  let v2 : Bool := !v1
  bif v2 then (
    some false) else
  (impl_wireOf v0).bind fun v3 =>
  some v3.2.2.2
noncomputable def spec_SourceNode (v0 : ((Int × (Int × (Int × Int))) × (List Int × (Int × ((Int × Int) × List (Int × Int)))))) : Option Int :=
  let v1 : Bool := decide (v0.2.2.2.1.1 < 0)
  bif v1 then (
    some (-1)) else
  let v2 : Int := ((v0.2.1).length : Int)
  let v3 : Bool := decide (v2 ≤ v0.2.2.2.1.1)
  bif v3 then (
    some (-1)) else
  (gget 0 v0.2.1 v0.2.2.2.1.1).bind fun v4 =>
  (spec_OutPin (v0.1, (v4, v0.2.2.2.1.2))).bind fun v5 =>
  some v5
noncomputable def impl_SourceNode (v0 : ((Int × (Int × (Int × Int))) × (List Int × (Int × ((Int × Int) × List (Int × Int)))))) : Option Int :=
  let v1 : Int := ((v0.2.1).length : Int)
  let v2 : Int := wrap .i64 (v1 - 1)
  (impl_inRange (v0.2.2.2.1.1, (0, v2))).bind fun v3 =>
  let v4 : Bool := !v3
  bif v4 then (
    some (-1)) else
  (gget 0 v0.2.1 v0.2.2.2.1.1).bind fun v5 =>
  (impl_OutPin (v0.1, (v5, v0.2.2.2.1.2))).bind fun v6 =>
  some v6
noncomputable def spec_SinkNodes (v0 : ((Int × (Int × (Int × Int))) × (List Int × (Int × ((Int × Int) × List (Int × Int)))))) : Option (List Int) :=
  Pu.loop (fun (v1 : (Int × List Int)) =>
    let v2 : Int := ((v0.2.2.2.2).length : Int)
    let v3 : Bool := decide (v1.1 < v2)
    bif v3 then (
      (gget (0, 0) v0.2.2.2.2 v1.1).bind fun v4 =>
      let v5 : Bool := decide (v4.1 < 0)
      bif v5 then (
        Option.map Sum.inr (
          some ([] : List Int))) else
      let v6 : Int := ((v0.2.1).length : Int)
      let v7 : Bool := decide (v6 ≤ v4.1)
      bif v7 then (
        Option.map Sum.inr (
          some ([] : List Int))) else
      (gget 0 v0.2.1 v4.1).bind fun v8 =>
      (gget (0, 0) v0.2.2.2.2 v1.1).bind fun v9 =>
      (spec_InPin (v0.1, (v8, v9.2))).bind fun v10 =>
      let v11 : Bool := decide (v10 < 0)
      bif v11 then (
        Option.map Sum.inr (
          some ([] : List Int))) else
      let v12 : List Int := [v10]
      (gapp 8 v1.2 v12).bind fun v13 =>
      let v14 : Int := wrap .i64 (v1.1 + 1)
      some (.inl (v14, v13))) else
    Option.map Sum.inr (
      some v1.2)) (0, ([] : List Int))
noncomputable def impl_SinkNodes (v0 : ((Int × (Int × (Int × Int))) × (List Int × (Int × ((Int × Int) × List (Int × Int)))))) : Option (List Int) :=
  let v1 : Int := ((v0.2.2.2.2).length : Int)
  Pu.loop (fun (v2 : (List Int × Int)) =>
    let v3 : Bool := decide (v2.2 < v1)
    bif v3 then (
      (gget (0, 0) v0.2.2.2.2 v2.2).bind fun v4 =>
      let v5 : Int := ((v0.2.1).length : Int)
      let v6 : Int := wrap .i64 (v5 - 1)
      (impl_inRange (v4.1, (0, v6))).bind fun v7 =>
      let v8 : Bool := !v7
      bif v8 then (
        Option.map Sum.inr (
          some ([] : List Int))) else
      (gget 0 v0.2.1 v4.1).bind fun v9 =>
      (impl_InPin (v0.1, (v9, v4.2))).bind fun v10 =>
      let v11 : Bool := decide (v10 < 0)
      bif v11 then (
        Option.map Sum.inr (
          some ([] : List Int))) else
      let v12 : List Int := [v10]
      (gapp 8 v2.1 v12).bind fun v13 =>
      let v14 : Int := wrap .i64 (v2.2 + 1)
      some (.inl (v13, v14))) else
    Option.map Sum.inr (
      some v2.1)) (([] : List Int), 0)
noncomputable def spec_IsWire (v0 : ((Int × (Int × (Int × Int))) × Int)) : Option Bool :=
  (spec_RouteNodeOk v0).bind fun v1 =>
  bif v1 then (
    (spec_l27Per v0.1).bind fun v2 =>
    (grem v0.2 v2).bind fun v3 =>
    let v4 : Bool := decide (7 ≤ v3)
    some v4) else
  some false
noncomputable def impl_WireReaches (v0 : ((Int × (Int × (Int × Int))) × Int)) : Option (List Int) :=
  (impl_IsWire v0).bind fun v1 =>
  let v2 : Bool := !v1
  bif v2 then (
    some ([] : List Int)) else
  (impl_wireOf v0).bind fun v3 =>
  Pu.loop (fun (v4 : (List Int × Int)) =>
    (impl_wireLength v3.2.2.1).bind fun v5 =>
    let v6 : Bool := decide (v4.2 ≤ v5)
    bif v6 then (
      (impl_tileStep (v0.1, (v3.1, (v3.2.1, v4.2)))).bind fun v7 =>
      let v8 : List Int := [v7]
      (gapp 8 v4.1 v8).bind fun v9 =>
      let v10 : Int := wrap .i64 (v4.2 + 1)
      some (.inl (v9, v10))) else
    Option.map Sum.inr (
      some v4.1)) (([] : List Int), 1)
noncomputable def impl_WireCount (v0 : ((Int × (Int × (Int × Int))) × (List Int × List Int))) : Option Int :=
  let v1 : Int := ((v0.2.1).length : Int)
  Pu.loop (fun (v2 : (Int × Int)) =>
    let v3 : Bool := decide (v2.2 < v1)
    bif v3 then (
      (gget 0 v0.2.1 v2.2).bind fun v4 =>
      (impl_IsWire (v0.1, v4)).bind fun v5 =>
      bif v5 then (
        let v6 : Int := wrap .i64 (v2.1 + 1)
        let v7 : Int := wrap .i64 (v2.2 + 1)
        some (.inl (v6, v7))) else
      let v6 : Int := wrap .i64 (v2.2 + 1)
      some (.inl (v2.1, v6))) else
    Option.map Sum.inr (
      some v2.1)) (0, 0)
noncomputable def spec_WireReaches (v0 : ((Int × (Int × (Int × Int))) × Int)) : Option (List Int) :=
  (spec_IsWire v0).bind fun v1 =>
  let v2 : Bool := !v1
  bif v2 then (
    some ([] : List Int)) else
  (spec_l27Wire v0).bind fun v3 =>
  Pu.loop (fun (v4 : (Int × List Int)) =>
    (grem v3.2 2).bind fun v5 =>
    let v6 : Int := wrap .i64 (1 + v5)
    let v7 : Bool := decide (v4.1 ≤ v6)
    bif v7 then (
      (spec_l27Per v0.1).bind fun v8 =>
      (gdiv .i64 v0.2 v8).bind fun v9 =>
      (spec_TileStep (v0.1, (v9, (v3.1, v4.1)))).bind fun v10 =>
      let v11 : List Int := [v10]
      (gapp 8 v4.2 v11).bind fun v12 =>
      let v13 : Int := wrap .i64 (v4.1 + 1)
      some (.inl (v13, v12))) else
    Option.map Sum.inr (
      some v4.2)) (1, ([] : List Int))
noncomputable def spec_WireCount (v0 : ((Int × (Int × (Int × Int))) × (List Int × List Int))) : Option Int :=
  Pu.loop (fun (v1 : (Int × Int)) =>
    let v2 : Int := ((v0.2.1).length : Int)
    let v3 : Bool := decide (v1.2 < v2)
    bif v3 then (
      (gget 0 v0.2.1 v1.2).bind fun v4 =>
      (spec_IsWire (v0.1, v4)).bind fun v5 =>
      (spec_l07Bit v5).bind fun v6 =>
      let v7 : Int := wrap .i64 (v1.1 + v6)
      let v8 : Int := wrap .i64 (v1.2 + 1)
      some (.inl (v7, v8))) else
    Option.map Sum.inr (
      some v1.1)) (0, 0)
end Go.Pf
