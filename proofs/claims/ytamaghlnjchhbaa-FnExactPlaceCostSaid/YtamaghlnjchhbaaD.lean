/-
  Own work, printed by my tool: the readable functions.
-/
import Derived.Test.YtamaghlnjchhbaaPu2
namespace Go.Pf
open Go Go.Pu
set_option linter.unusedVariables false
noncomputable def laws_eqIntS (v0 : (List Int × List Int)) : Option Bool :=
  let v1 : Int := ((v0.1).length : Int)
  let v2 : Int := ((v0.2).length : Int)
  let v3 : Bool := decide (v1 ≠ v2)
  bif v3 then (
    some false) else
  Pu.loop (fun (v4 : Int) =>
    let v5 : Int := ((v0.1).length : Int)
    let v6 : Bool := decide (v4 < v5)
    bif v6 then (
      (gget 0 v0.1 v4).bind fun v7 =>
      (gget 0 v0.2 v4).bind fun v8 =>
      let v9 : Bool := decide (v7 ≠ v8)
      bif v9 then (
        Option.map Sum.inr (
          some false)) else
      let v10 : Int := wrap .i64 (v4 + 1)
      some (.inl v10)) else
    Option.map Sum.inr (
      some true)) 0
noncomputable def laws_markIntS (v0 : (List Int × Int)) : Option (Int × List Int) :=
  Pu.loop (fun (v1 : (Int × (Int × List Int))) =>
    let v2 : Int := ((v1.2.2).length : Int)
    let v3 : Bool := decide (v1.2.1 < v2)
    bif v3 then (
      (gin (v1.2.2).length v1.2.1).bind fun _ =>
      (gget 0 v1.2.2 v1.2.1).bind fun v5 =>
      let v6 : Int := v1.1
      let v7 : List Int := gset v1.2.2 v1.2.1 v6
      let v8 : Int := wrap .i64 (v1.1 + 1)
      let v9 : Int := wrap .i64 (v1.2.1 + 1)
      some (.inl (v8, (v9, v7)))) else
    Option.map Sum.inr (
      some (v1.1, v1.2.2))) (v0.2, (0, v0.1))
noncomputable def laws_heldIntS (v0 : (List Int × Int)) : Option Int :=
  Pu.loop (fun (v1 : (Int × Int)) =>
    let v2 : Int := ((v0.1).length : Int)
    let v3 : Bool := decide (v1.2 < v2)
    bif v3 then (
      (gget 0 v0.1 v1.2).bind fun v4 =>
      let v5 : Bool := decide (v4 ≠ v1.1)
      bif v5 then (
        Option.map Sum.inr (
          some (-1))) else
      let v6 : Int := wrap .i64 (v1.1 + 1)
      let v7 : Int := wrap .i64 (v1.2 + 1)
      some (.inl (v6, v7))) else
    Option.map Sum.inr (
      some v1.1)) (v0.2, 0)
noncomputable def laws_toDevice (v0 : (Int × (Int × (Int × Int)))) : Option (Int × (Int × (Int × Int))) :=
  some v0
noncomputable def laws_toIntS (v0 : List Int) : Option (List Int) :=
  let v1 : Int := ((v0).length : Int)
  (gmake 8 (0 : Int) v1).bind fun v2 =>
  Pu.loop (fun (v3 : (Int × List Int)) =>
    let v4 : Int := ((v0).length : Int)
    let v5 : Bool := decide (v3.1 < v4)
    bif v5 then (
      (gget 0 v0 v3.1).bind fun v6 =>
      (gin (v3.2).length v3.1).bind fun _ =>
      (gget 0 v3.2 v3.1).bind fun v8 =>
      let v9 : Int := v6
      let v10 : List Int := gset v3.2 v3.1 v9
      let v11 : Int := wrap .i64 (v3.1 + 1)
      some (.inl (v11, v10))) else
    Option.map Sum.inr (
      some v3.2)) (0, v2)
noncomputable def impl_inRange (v0 : (Int × (Int × Int))) : Option Bool :=
  let v1 : Bool := decide (v0.2.1 ≤ v0.1)
  bif v1 then (
    let v2 : Bool := decide (v0.1 ≤ v0.2.2)
    some v2) else
  some false
noncomputable def spec_l01In (v0 : (Int × (Int × Int))) : Option Bool :=
  let v1 : Bool := decide (v0.2.1 ≤ v0.1)
  bif v1 then (
    let v2 : Bool := decide (v0.1 ≤ v0.2.2)
    some v2) else
  some false
noncomputable def laws_szPinS (v0 : (List (Int × Int) × Int)) : Option Int :=
  let v1 : Int := ((v0.1).length : Int)
  let v2 : Int := wrap .i64 (v0.2 - v1)
  let v3 : Bool := decide (v2 < 0)
  bif v3 then (
    some (-1)) else
  some v2
noncomputable def laws_toPin (v0 : (Int × Int)) : Option (Int × Int) :=
  some v0
noncomputable def impl_pinsOf (v0 : (Int × ((Int × Int) × List (Int × Int)))) : Option (List (Int × Int)) :=
  let v1 : List (Int × Int) := [v0.2.1]
  (gapp 16 v1 v0.2.2).bind fun v2 =>
  some v2
noncomputable def laws_eqPin (v0 : ((Int × Int) × (Int × Int))) : Option Bool :=
  let v1 : Bool := decide (v0.1.1 ≠ v0.2.1)
  bif v1 then (
    some false) else
  let v2 : Bool := decide (v0.1.2 ≠ v0.2.2)
  bif v2 then (
    some false) else
  some true
noncomputable def impl_tileKind (v0 : ((Int × (Int × (Int × Int))) × Int)) : Option Int :=
  (grem v0.2 v0.1.1).bind fun v1 =>
  (gdiv .i64 v0.2 v0.1.1).bind fun v2 =>
  let v3 : Bool := decide (v1 = 0)
  bif v3 then (
    some 0) else
  let v4 : Int := wrap .i64 (v0.1.1 - 1)
  let v5 : Bool := decide (v1 = v4)
  bif v5 then (
    some 0) else
  let v6 : Bool := decide (v2 = 0)
  bif v6 then (
    some 0) else
  let v7 : Int := wrap .i64 (v0.1.2.1 - 1)
  let v8 : Bool := decide (v2 = v7)
  bif v8 then (
    some 0) else
  let v9 : Bool := decide (v1 = v0.1.2.2.2)
  bif v9 then (
    some 2) else
  some 1
noncomputable def laws_szConn (v0 : ((Int × ((Int × Int) × List (Int × Int))) × Int)) : Option Int :=
  (laws_szPinS (v0.1.2.2, v0.2)).bind fun v1 =>
  let v2 : Bool := decide (v1 < 0)
  bif v2 then (
    some (-1)) else
  some v1
noncomputable def laws_eqPinS (v0 : (List (Int × Int) × List (Int × Int))) : Option Bool :=
  let v1 : Int := ((v0.1).length : Int)
  let v2 : Int := ((v0.2).length : Int)
  let v3 : Bool := decide (v1 ≠ v2)
  bif v3 then (
    some false) else
  Pu.loop (fun (v4 : Int) =>
    let v5 : Int := ((v0.1).length : Int)
    let v6 : Bool := decide (v4 < v5)
    bif v6 then (
      (gget (0, 0) v0.1 v4).bind fun v7 =>
      (gget (0, 0) v0.2 v4).bind fun v8 =>
      (laws_eqPin (v7, v8)).bind fun v9 =>
      let v10 : Bool := !v9
      bif v10 then (
        Option.map Sum.inr (
          some false)) else
      let v11 : Int := wrap .i64 (v4 + 1)
      some (.inl v11)) else
    Option.map Sum.inr (
      some true)) 0
noncomputable def spec_DeviceOk (v0 : (Int × (Int × (Int × Int)))) : Option Bool :=
  (spec_l01In (v0.1, (3, 6))).bind fun v1 =>
  bif v1 then (
    (spec_l01In (v0.2.1, (3, 6))).bind fun v2 =>
    bif v2 then (
      (spec_l01In (v0.2.2.1, (1, 4))).bind fun v3 =>
      bif v3 then (
        let v4 : Bool := decide (v0.2.2.2 = (-1))
        bif v4 then (
          some true) else
        let v5 : Int := wrap .i64 (v0.1 - 2)
        (spec_l01In (v0.2.2.2, (1, v5))).bind fun v6 =>
        some v6) else
      some false) else
    some false) else
  some false
noncomputable def impl_DeviceOk (v0 : (Int × (Int × (Int × Int)))) : Option Bool :=
  (impl_inRange (v0.1, (3, 6))).bind fun v1 =>
  bif v1 then (
    (impl_inRange (v0.2.1, (3, 6))).bind fun v2 =>
    bif v2 then (
      (impl_inRange (v0.2.2.1, (1, 4))).bind fun v3 =>
      bif v3 then (
        let v4 : Bool := decide (v0.2.2.2 = (-1))
        bif v4 then (
          some true) else
        let v5 : Int := wrap .i64 (v0.1 - 2)
        (impl_inRange (v0.2.2.2, (1, v5))).bind fun v6 =>
        some v6) else
      some false) else
    some false) else
  some false
noncomputable def spec_l29Pin (v0 : ((Int × Int) × Int)) : Option Bool :=
  let v1 : Bool := decide (0 ≤ v0.1.1)
  bif v1 then (
    let v2 : Bool := decide (v0.1.1 < v0.2)
    bif v2 then (
      (spec_l01In (v0.1.2, (0, 4))).bind fun v3 =>
      some v3) else
    some false) else
  some false
noncomputable def impl_pinOk (v0 : (Int × (Int × Int))) : Option Bool :=
  let v1 : Int := wrap .i64 (v0.1 - 1)
  (impl_inRange (v0.2.1, (0, v1))).bind fun v2 =>
  bif v2 then (
    (impl_inRange (v0.2.2, (0, 4))).bind fun v3 =>
    some v3) else
  some false
noncomputable def laws_toPinS (v0 : List (Int × Int)) : Option (List (Int × Int)) :=
  let v1 : Int := ((v0).length : Int)
  (gmake 16 ((0, 0) : (Int × Int)) v1).bind fun v2 =>
  Pu.loop (fun (v3 : (Int × List (Int × Int))) =>
    let v4 : Int := ((v0).length : Int)
    let v5 : Bool := decide (v3.1 < v4)
    bif v5 then (
      (gget (0, 0) v0 v3.1).bind fun v6 =>
      (laws_toPin v6).bind fun v7 =>
      (gin (v3.2).length v3.1).bind fun _ =>
      (gget (0, 0) v3.2 v3.1).bind fun v9 =>
      let v10 : (Int × Int) := v7
      let v11 : List (Int × Int) := gset v3.2 v3.1 v10
      let v12 : Int := wrap .i64 (v3.1 + 1)
      some (.inl (v12, v11))) else
    Option.map Sum.inr (
      some v3.2)) (0, v2)
noncomputable def laws_szConnS (v0 : (List (Int × ((Int × Int) × List (Int × Int))) × Int)) : Option Int :=
  let v1 : Int := ((v0.1).length : Int)
  let v2 : Int := wrap .i64 (v0.2 - v1)
  let v3 : Bool := decide (v2 < 0)
  bif v3 then (
    some (-1)) else
  Pu.loop (fun (v4 : (Int × Int)) =>
    let v5 : Int := ((v0.1).length : Int)
    let v6 : Bool := decide (v4.2 < v5)
    bif v6 then (
      (gget (0, ((0, 0), [])) v0.1 v4.2).bind fun v7 =>
      (laws_szConn (v7, v4.1)).bind fun v8 =>
      let v9 : Bool := decide (v8 < 0)
      bif v9 then (
        Option.map Sum.inr (
          some (-1))) else
      let v10 : Int := wrap .i64 (v4.2 + 1)
      some (.inl (v8, v10))) else
    Option.map Sum.inr (
      some v4.1)) (v2, 0)
noncomputable def spec_ConnsOk (v0 : (Int × List (Int × ((Int × Int) × List (Int × Int))))) : Option Bool :=
  (spec_l01In (v0.1, (0, 64))).bind fun v1 =>
  let v2 : Bool := !v1
  bif v2 then (
    some false) else
  let v3 : Int := ((v0.2).length : Int)
  let v4 : Bool := decide (100 < v3)
  bif v4 then (
    some false) else
  Pu.loop (fun (v5 : Int) =>
    let v6 : Int := ((v0.2).length : Int)
    let v7 : Bool := decide (v5 < v6)
    bif v7 then (
      (gget (0, ((0, 0), [])) v0.2 v5).bind fun v8 =>
      let v9 : Int := ((v8.2.2).length : Int)
      (spec_l01In (v9, (1, 120))).bind fun v10 =>
      let v11 : Bool := !v10
      bif v11 then (
        Option.map Sum.inr (
          some false)) else
      (gget (0, ((0, 0), [])) v0.2 v5).bind fun v12 =>
      (spec_l29Pin (v12.2.1, v0.1)).bind fun v13 =>
      let v14 : Bool := !v13
      bif v14 then (
        Option.map Sum.inr (
          some false)) else
      Pu.loop (fun (v15 : Int) =>
        (gget (0, ((0, 0), [])) v0.2 v5).bind fun v16 =>
        let v17 : Int := ((v16.2.2).length : Int)
        let v18 : Bool := decide (v15 < v17)
        bif v18 then (
          (gget (0, ((0, 0), [])) v0.2 v5).bind fun v19 =>
          (gget (0, 0) v19.2.2 v15).bind fun v20 =>
          (spec_l29Pin (v20, v0.1)).bind fun v21 =>
          let v22 : Bool := !v21
          bif v22 then (
            Option.map Sum.inr (
              Option.map Sum.inr (
                some false))) else
          let v23 : Int := wrap .i64 (v15 + 1)
          some (.inl v23)) else
        Option.map Sum.inr (
          let v19 : Int := wrap .i64 (v5 + 1)
          some (.inl v19))) 0) else
    Option.map Sum.inr (
      some true)) 0
noncomputable def impl_ConnsOk (v0 : (Int × List (Int × ((Int × Int) × List (Int × Int))))) : Option Bool :=
  (impl_inRange (v0.1, (0, 64))).bind fun v1 =>
  let v2 : Bool := !v1
  bif v2 then (
    some false) else
  let v3 : Int := ((v0.2).length : Int)
  let v4 : Bool := decide (100 < v3)
  bif v4 then (
    some false) else
  let v5 : Int := ((v0.2).length : Int)
  Pu.loop (fun (v6 : Int) =>
    let v7 : Bool := decide (v6 < v5)
    bif v7 then (
      (gget (0, ((0, 0), [])) v0.2 v6).bind fun v8 =>
      let v9 : Int := ((v8.2.2).length : Int)
      (impl_inRange (v9, (1, 120))).bind fun v10 =>
      let v11 : Bool := !v10
      bif v11 then (
        Option.map Sum.inr (
          some false)) else
      (impl_pinOk (v0.1, v8.2.1)).bind fun v12 =>
      let v13 : Bool := !v12
      bif v13 then (
        Option.map Sum.inr (
          some false)) else
      let v14 : Int := ((v8.2.2).length : Int)
      Pu.loop (fun (v15 : Int) =>
        let v16 : Bool := decide (v15 < v14)
        bif v16 then (
          (gget (0, 0) v8.2.2 v15).bind fun v17 =>
          (impl_pinOk (v0.1, v17)).bind fun v18 =>
          let v19 : Bool := !v18
          bif v19 then (
            Option.map Sum.inr (
              Option.map Sum.inr (
                some false))) else
          let v20 : Int := wrap .i64 (v15 + 1)
          some (.inl v20)) else
        Option.map Sum.inr (
          let v17 : Int := wrap .i64 (v6 + 1)
          some (.inl v17))) 0) else
    Option.map Sum.inr (
      some true)) 0
noncomputable def laws_toConn (v0 : (Int × ((Int × Int) × List (Int × Int)))) : Option (Int × ((Int × Int) × List (Int × Int))) :=
  (laws_toPin v0.2.1).bind fun v1 =>
  (laws_toPinS v0.2.2).bind fun v2 =>
  some (v0.1, (v1, v2))
noncomputable def laws_eqConn (v0 : ((Int × ((Int × Int) × List (Int × Int))) × (Int × ((Int × Int) × List (Int × Int))))) : Option Bool :=
  let v1 : Bool := decide (v0.1.1 ≠ v0.2.1)
  bif v1 then (
    some false) else
  (laws_eqPin (v0.1.2.1, v0.2.2.1)).bind fun v2 =>
  let v3 : Bool := !v2
  bif v3 then (
    some false) else
  (laws_eqPinS (v0.1.2.2, v0.2.2.2)).bind fun v4 =>
  let v5 : Bool := !v4
  bif v5 then (
    some false) else
  some true
noncomputable def spec_TileKind (v0 : ((Int × (Int × (Int × Int))) × Int)) : Option Int :=
  (spec_DeviceOk v0.1).bind fun v1 =>
  let v2 : Bool := !v1
  bif v2 then (
    some (-1)) else
  let v3 : Bool := decide (v0.2 < 0)
  bif v3 then (
    some (-1)) else
  let v4 : Int := wrap .i64 (v0.1.1 * v0.1.2.1)
  let v5 : Bool := decide (v4 ≤ v0.2)
  bif v5 then (
    some (-1)) else
  (grem v0.2 v0.1.1).bind fun v6 =>
  (gdiv .i64 v0.2 v0.1.1).bind fun v7 =>
  let v8 : Bool := decide (v6 = 0)
  bif v8 then (
    some 0) else
  let v9 : Bool := decide (v7 = 0)
  bif v9 then (
    some 0) else
  let v10 : Int := wrap .i64 (v0.1.1 - 1)
  let v11 : Bool := decide (v6 = v10)
  bif v11 then (
    some 0) else
  let v12 : Int := wrap .i64 (v0.1.2.1 - 1)
  let v13 : Bool := decide (v7 = v12)
  bif v13 then (
    some 0) else
  let v14 : Bool := decide (v6 = v0.1.2.2.2)
  bif v14 then (
    some 2) else
  some 1
noncomputable def impl_tileOk (v0 : ((Int × (Int × (Int × Int))) × Int)) : Option Bool :=
  (impl_DeviceOk v0.1).bind fun v1 =>
  bif v1 then (
    let v2 : Int := wrap .i64 (v0.1.1 * v0.1.2.1)
    let v3 : Int := wrap .i64 (v2 - 1)
    (impl_inRange (v0.2, (0, v3))).bind fun v4 =>
    some v4) else
  some false
noncomputable def laws_toConnS (v0 : List (Int × ((Int × Int) × List (Int × Int)))) : Option (List (Int × ((Int × Int) × List (Int × Int)))) :=
  let v1 : Int := ((v0).length : Int)
  (gmake 48 ((0, ((0, 0), [])) : (Int × ((Int × Int) × List (Int × Int)))) v1).bind fun v2 =>
  Pu.loop (fun (v3 : (Int × List (Int × ((Int × Int) × List (Int × Int))))) =>
    let v4 : Int := ((v0).length : Int)
    let v5 : Bool := decide (v3.1 < v4)
    bif v5 then (
      (gget (0, ((0, 0), [])) v0 v3.1).bind fun v6 =>
      (laws_toConn v6).bind fun v7 =>
      (gin (v3.2).length v3.1).bind fun _ =>
      (gget (0, ((0, 0), [])) v3.2 v3.1).bind fun v9 =>
      let v10 : (Int × ((Int × Int) × List (Int × Int))) := v7
      let v11 : List (Int × ((Int × Int) × List (Int × Int))) := gset v3.2 v3.1 v10
      let v12 : Int := wrap .i64 (v3.1 + 1)
      some (.inl (v12, v11))) else
    Option.map Sum.inr (
      some v3.2)) (0, v2)
noncomputable def laws_eqConnS (v0 : (List (Int × ((Int × Int) × List (Int × Int))) × List (Int × ((Int × Int) × List (Int × Int))))) : Option Bool :=
  let v1 : Int := ((v0.1).length : Int)
  let v2 : Int := ((v0.2).length : Int)
  let v3 : Bool := decide (v1 ≠ v2)
  bif v3 then (
    some false) else
  Pu.loop (fun (v4 : Int) =>
    let v5 : Int := ((v0.1).length : Int)
    let v6 : Bool := decide (v4 < v5)
    bif v6 then (
      (gget (0, ((0, 0), [])) v0.1 v4).bind fun v7 =>
      (gget (0, ((0, 0), [])) v0.2 v4).bind fun v8 =>
      (laws_eqConn (v7, v8)).bind fun v9 =>
      let v10 : Bool := !v9
      bif v10 then (
        Option.map Sum.inr (
          some false)) else
      let v11 : Int := wrap .i64 (v4 + 1)
      some (.inl v11)) else
    Option.map Sum.inr (
      some true)) 0
noncomputable def spec_ConnSpan (v0 : ((Int × (Int × (Int × Int))) × (List Int × (Int × ((Int × Int) × List (Int × Int)))))) : Option Int :=
  (spec_DeviceOk v0.1).bind fun v1 =>
  let v2 : Bool := !v1
  bif v2 then (
    some (-1)) else
  let v3 : List (Int × Int) := [v0.2.2.2.1]
  (gapp 16 v3 v0.2.2.2.2).bind fun v4 =>
  Pu.loop (fun (v5 : (Int × (Int × (Int × (Int × Int))))) =>
    let v6 : Int := ((v4).length : Int)
    let v7 : Bool := decide (v5.2.2.2.2 < v6)
    bif v7 then (
      (gin (v4).length v5.2.2.2.2).bind fun _ =>
      (gget (0, 0) v4 v5.2.2.2.2).bind fun v9 =>
      let v10 : Bool := decide (v9.1 < 0)
      bif v10 then (
        Option.map Sum.inr (
          some (-1))) else
      let v11 : Int := ((v0.2.1).length : Int)
      let v12 : Bool := decide (v11 ≤ v9.1)
      bif v12 then (
        Option.map Sum.inr (
          some (-1))) else
      (gget 0 v0.2.1 v9.1).bind fun v13 =>
      (spec_TileKind (v0.1, v13)).bind fun v14 =>
      let v15 : Bool := decide (v14 < 0)
      bif v15 then (
        Option.map Sum.inr (
          some (-1))) else
      (gget 0 v0.2.1 v9.1).bind fun v16 =>
      (grem v16 v0.1.1).bind fun v17 =>
      let v18 : Int := if v17 < v5.1 then v17 else v5.1
      (gget 0 v0.2.1 v9.1).bind fun v19 =>
      (grem v19 v0.1.1).bind fun v20 =>
      let v21 : Int := if v5.2.1 < v20 then v20 else v5.2.1
      (gget 0 v0.2.1 v9.1).bind fun v22 =>
      (gdiv .i64 v22 v0.1.1).bind fun v23 =>
      let v24 : Int := if v23 < v5.2.2.1 then v23 else v5.2.2.1
      (gget 0 v0.2.1 v9.1).bind fun v25 =>
      (gdiv .i64 v25 v0.1.1).bind fun v26 =>
      let v27 : Int := if v5.2.2.2.1 < v26 then v26 else v5.2.2.2.1
      let v28 : Int := wrap .i64 (v5.2.2.2.2 + 1)
      some (.inl (v18, (v21, (v24, (v27, v28)))))) else
    Option.map Sum.inr (
      let v8 : Int := wrap .i64 (v5.2.1 - v5.1)
      let v9 : Int := wrap .i64 (v8 + v5.2.2.2.1)
      let v10 : Int := wrap .i64 (v9 - v5.2.2.1)
      some v10)) (v0.1.1, (0, (v0.1.2.1, (0, 0))))
noncomputable def impl_ConnSpan (v0 : ((Int × (Int × (Int × Int))) × (List Int × (Int × ((Int × Int) × List (Int × Int)))))) : Option Int :=
  (impl_DeviceOk v0.1).bind fun v1 =>
  let v2 : Bool := !v1
  bif v2 then (
    some (-1)) else
  (impl_pinsOf v0.2.2).bind fun v3 =>
  let v4 : Int := ((v3).length : Int)
  Pu.loop (fun (v5 : (Int × (Int × (Int × (Int × Int))))) =>
    let v6 : Bool := decide (v5.2.2.2.2 < v4)
    bif v6 then (
      (gin (v3).length v5.2.2.2.2).bind fun _ =>
      (gget (0, 0) v3 v5.2.2.2.2).bind fun v8 =>
      let v9 : Int := ((v0.2.1).length : Int)
      let v10 : Int := wrap .i64 (v9 - 1)
      (impl_inRange (v8.1, (0, v10))).bind fun v11 =>
      let v12 : Bool := !v11
      bif v12 then (
        Option.map Sum.inr (
          some (-1))) else
      (gget 0 v0.2.1 v8.1).bind fun v13 =>
      (impl_tileOk (v0.1, v13)).bind fun v14 =>
      let v15 : Bool := !v14
      bif v15 then (
        Option.map Sum.inr (
          some (-1))) else
      (gget 0 v0.2.1 v8.1).bind fun v16 =>
      (grem v16 v0.1.1).bind fun v17 =>
      (gget 0 v0.2.1 v8.1).bind fun v18 =>
      (gdiv .i64 v18 v0.1.1).bind fun v19 =>
      let v20 : Int := if v17 < v5.1 then v17 else v5.1
      let v21 : Int := if v5.2.1 < v17 then v17 else v5.2.1
      let v22 : Int := if v19 < v5.2.2.1 then v19 else v5.2.2.1
      let v23 : Int := if v5.2.2.2.1 < v19 then v19 else v5.2.2.2.1
      let v24 : Int := wrap .i64 (v5.2.2.2.2 + 1)
      some (.inl (v20, (v21, (v22, (v23, v24)))))) else
    Option.map Sum.inr (
      let v7 : Int := wrap .i64 (v5.2.1 - v5.1)
      let v8 : Int := wrap .i64 (v7 + v5.2.2.2.1)
      let v9 : Int := wrap .i64 (v8 - v5.2.2.1)
      some v9)) (6, ((-1), (6, ((-1), 0))))
noncomputable def impl_TileKind (v0 : ((Int × (Int × (Int × Int))) × Int)) : Option Int :=
  (impl_tileOk v0).bind fun v1 =>
  let v2 : Bool := !v1
  bif v2 then (
    some (-1)) else
  (impl_tileKind v0).bind fun v3 =>
  some v3
noncomputable def laws_FnExactConnsOk (v0 : (Int × List (Int × ((Int × Int) × List (Int × Int))))) : Option Bool :=
  (laws_szConnS (v0.2, 1048576)).bind fun v1 =>
  let v2 : Bool := decide (v1 < 0)
  bif v2 then (
    some true) else
  (laws_toConnS v0.2).bind fun v3 =>
  (spec_ConnsOk (v0.1, v3)).bind fun v4 =>
  (laws_toConnS v0.2).bind fun v5 =>
  (impl_ConnsOk (v0.1, v5)).bind fun v6 =>
  let v7 : Bool := (true ^^ (v6 == v4))
  bif v7 then (
    some false) else
  (laws_toConnS v0.2).bind fun v8 =>
  (laws_eqConnS (v5, v8)).bind fun v9 =>
  let v10 : Bool := !v9
  bif v10 then (
    some false) else
  some true
noncomputable def spec_PlaceCost (v0 : ((Int × (Int × (Int × Int))) × (List Int × List (Int × ((Int × Int) × List (Int × Int)))))) : Option Int :=
  let v1 : Int := ((v0.2.1).length : Int)
  (spec_ConnsOk (v1, v0.2.2)).bind fun v2 =>
  let v3 : Bool := !v2
  bif v3 then (
    some (-1)) else
  Pu.loop (fun (v4 : (Int × Int)) =>
    let v5 : Int := ((v0.2.2).length : Int)
    let v6 : Bool := decide (v4.2 < v5)
    bif v6 then (
      (gget (0, ((0, 0), [])) v0.2.2 v4.2).bind fun v7 =>
      (spec_ConnSpan (v0.1, (v0.2.1, v7))).bind fun v8 =>
      let v9 : Bool := decide (v8 < 0)
      bif v9 then (
        Option.map Sum.inr (
          some (-1))) else
      let v10 : Int := wrap .i64 (v4.1 + v8)
      let v11 : Int := wrap .i64 (v4.2 + 1)
      some (.inl (v10, v11))) else
    Option.map Sum.inr (
      some v4.1)) (0, 0)
noncomputable def impl_PlaceCost (v0 : ((Int × (Int × (Int × Int))) × (List Int × List (Int × ((Int × Int) × List (Int × Int)))))) : Option Int :=
  let v1 : Int := ((v0.2.1).length : Int)
  (impl_ConnsOk (v1, v0.2.2)).bind fun v2 =>
  let v3 : Bool := !v2
  bif v3 then (
    some (-1)) else
  let v4 : Int := ((v0.2.2).length : Int)
  Pu.loop (fun (v5 : (Int × Int)) =>
    let v6 : Bool := decide (v5.2 < v4)
    bif v6 then (
      (gget (0, ((0, 0), [])) v0.2.2 v5.2).bind fun v7 =>
      (impl_ConnSpan (v0.1, (v0.2.1, v7))).bind fun v8 =>
      let v9 : Bool := decide (v8 < 0)
      bif v9 then (
        Option.map Sum.inr (
          some (-1))) else
      let v10 : Int := wrap .i64 (v5.1 + v8)
      let v11 : Int := wrap .i64 (v5.2 + 1)
      some (.inl (v10, v11))) else
    Option.map Sum.inr (
      some v5.1)) (0, 0)
noncomputable def laws_FnExactPlaceCost (v0 : ((Int × (Int × (Int × Int))) × (List Int × List (Int × ((Int × Int) × List (Int × Int)))))) : Option Bool :=
  let v1 : Int := ((v0.2.1).length : Int)
  let v2 : Bool := decide (1048576 < v1)
  bif v2 then (
    some true) else
  (laws_szConnS (v0.2.2, 1048576)).bind fun v3 =>
  let v4 : Bool := decide (v3 < 0)
  bif v4 then (
    some true) else
  (laws_toDevice v0.1).bind fun v5 =>
  (laws_toIntS v0.2.1).bind fun v6 =>
  (laws_toConnS v0.2.2).bind fun v7 =>
  (spec_PlaceCost (v5, (v6, v7))).bind fun v8 =>
  (laws_toIntS v0.2.1).bind fun v9 =>
  (laws_toConnS v0.2.2).bind fun v10 =>
  (laws_toDevice v0.1).bind fun v11 =>
  (impl_PlaceCost (v11, (v9, v10))).bind fun v12 =>
  let v13 : Bool := decide (v12 ≠ v8)
  bif v13 then (
    some false) else
  (laws_toIntS v0.2.1).bind fun v14 =>
  (laws_eqIntS (v9, v14)).bind fun v15 =>
  let v16 : Bool := !v15
  bif v16 then (
    some false) else
  (laws_toConnS v0.2.2).bind fun v17 =>
  (laws_eqConnS (v10, v17)).bind fun v18 =>
  let v19 : Bool := !v18
  bif v19 then (
    some false) else
  some true
noncomputable def laws_szPointS (v0 : (List (Int × Int) × Int)) : Option Int :=
  let v1 : Int := ((v0.1).length : Int)
  let v2 : Int := wrap .i64 (v0.2 - v1)
  let v3 : Bool := decide (v2 < 0)
  bif v3 then (
    some (-1)) else
  some v2
noncomputable def laws_szArcS (v0 : (List (Int × (Int × Int)) × Int)) : Option Int :=
  let v1 : Int := ((v0.1).length : Int)
  let v2 : Int := wrap .i64 (v0.2 - v1)
  let v3 : Bool := decide (v2 < 0)
  bif v3 then (
    some (-1)) else
  some v2
noncomputable def laws_toPoint (v0 : (Int × Int)) : Option (Int × Int) :=
  some v0
noncomputable def laws_eqPoint (v0 : ((Int × Int) × (Int × Int))) : Option Bool :=
  let v1 : Bool := decide (v0.1.1 ≠ v0.2.1)
  bif v1 then (
    some false) else
  let v2 : Bool := decide (v0.1.2 ≠ v0.2.2)
  bif v2 then (
    some false) else
  some true
noncomputable def laws_toArc (v0 : (Int × (Int × Int))) : Option (Int × (Int × Int)) :=
  some v0
noncomputable def laws_eqArc (v0 : ((Int × (Int × Int)) × (Int × (Int × Int)))) : Option Bool :=
  let v1 : Bool := decide (v0.1.1 ≠ v0.2.1)
  bif v1 then (
    some false) else
  let v2 : Bool := decide (v0.1.2.1 ≠ v0.2.2.1)
  bif v2 then (
    some false) else
  let v3 : Bool := decide (v0.1.2.2 ≠ v0.2.2.2)
  bif v3 then (
    some false) else
  some true
noncomputable def laws_szTimingGraph (v0 : ((Int × List (Int × (Int × Int))) × Int)) : Option Int :=
  (laws_szArcS (v0.1.2, v0.2)).bind fun v1 =>
  let v2 : Bool := decide (v1 < 0)
  bif v2 then (
    some (-1)) else
  some v1
noncomputable def laws_toPointS (v0 : List (Int × Int)) : Option (List (Int × Int)) :=
  let v1 : Int := ((v0).length : Int)
  (gmake 16 ((0, 0) : (Int × Int)) v1).bind fun v2 =>
  Pu.loop (fun (v3 : (Int × List (Int × Int))) =>
    let v4 : Int := ((v0).length : Int)
    let v5 : Bool := decide (v3.1 < v4)
    bif v5 then (
      (gget (0, 0) v0 v3.1).bind fun v6 =>
      (laws_toPoint v6).bind fun v7 =>
      (gin (v3.2).length v3.1).bind fun _ =>
      (gget (0, 0) v3.2 v3.1).bind fun v9 =>
      let v10 : (Int × Int) := v7
      let v11 : List (Int × Int) := gset v3.2 v3.1 v10
      let v12 : Int := wrap .i64 (v3.1 + 1)
      some (.inl (v12, v11))) else
    Option.map Sum.inr (
      some v3.2)) (0, v2)
noncomputable def laws_eqPointS (v0 : (List (Int × Int) × List (Int × Int))) : Option Bool :=
  let v1 : Int := ((v0.1).length : Int)
  let v2 : Int := ((v0.2).length : Int)
  let v3 : Bool := decide (v1 ≠ v2)
  bif v3 then (
    some false) else
  Pu.loop (fun (v4 : Int) =>
    let v5 : Int := ((v0.1).length : Int)
    let v6 : Bool := decide (v4 < v5)
    bif v6 then (
      (gget (0, 0) v0.1 v4).bind fun v7 =>
      (gget (0, 0) v0.2 v4).bind fun v8 =>
      (laws_eqPoint (v7, v8)).bind fun v9 =>
      let v10 : Bool := !v9
      bif v10 then (
        Option.map Sum.inr (
          some false)) else
      let v11 : Int := wrap .i64 (v4 + 1)
      some (.inl v11)) else
    Option.map Sum.inr (
      some true)) 0
noncomputable def laws_toArcS (v0 : List (Int × (Int × Int))) : Option (List (Int × (Int × Int))) :=
  let v1 : Int := ((v0).length : Int)
  (gmake 24 ((0, (0, 0)) : (Int × (Int × Int))) v1).bind fun v2 =>
  Pu.loop (fun (v3 : (Int × List (Int × (Int × Int)))) =>
    let v4 : Int := ((v0).length : Int)
    let v5 : Bool := decide (v3.1 < v4)
    bif v5 then (
      (gget (0, (0, 0)) v0 v3.1).bind fun v6 =>
      (laws_toArc v6).bind fun v7 =>
      (gin (v3.2).length v3.1).bind fun _ =>
      (gget (0, (0, 0)) v3.2 v3.1).bind fun v9 =>
      let v10 : (Int × (Int × Int)) := v7
      let v11 : List (Int × (Int × Int)) := gset v3.2 v3.1 v10
      let v12 : Int := wrap .i64 (v3.1 + 1)
      some (.inl (v12, v11))) else
    Option.map Sum.inr (
      some v3.2)) (0, v2)
noncomputable def laws_eqArcS (v0 : (List (Int × (Int × Int)) × List (Int × (Int × Int)))) : Option Bool :=
  let v1 : Int := ((v0.1).length : Int)
  let v2 : Int := ((v0.2).length : Int)
  let v3 : Bool := decide (v1 ≠ v2)
  bif v3 then (
    some false) else
  Pu.loop (fun (v4 : Int) =>
    let v5 : Int := ((v0.1).length : Int)
    let v6 : Bool := decide (v4 < v5)
    bif v6 then (
      (gget (0, (0, 0)) v0.1 v4).bind fun v7 =>
      (gget (0, (0, 0)) v0.2 v4).bind fun v8 =>
      (laws_eqArc (v7, v8)).bind fun v9 =>
      let v10 : Bool := !v9
      bif v10 then (
        Option.map Sum.inr (
          some false)) else
      let v11 : Int := wrap .i64 (v4 + 1)
      some (.inl v11)) else
    Option.map Sum.inr (
      some true)) 0
noncomputable def laws_toTimingGraph (v0 : (Int × List (Int × (Int × Int)))) : Option (Int × List (Int × (Int × Int))) :=
  (laws_toArcS v0.2).bind fun v1 =>
  some (v0.1, v1)
noncomputable def laws_eqTimingGraph (v0 : ((Int × List (Int × (Int × Int))) × (Int × List (Int × (Int × Int))))) : Option Bool :=
  let v1 : Bool := decide (v0.1.1 ≠ v0.2.1)
  bif v1 then (
    some false) else
  (laws_eqArcS (v0.1.2, v0.2.2)).bind fun v2 =>
  let v3 : Bool := !v2
  bif v3 then (
    some false) else
  some true
noncomputable def spec_l27Per (v0 : (Int × (Int × (Int × Int)))) : Option Int :=
  let v1 : Int := wrap .i64 (4 * v0.2.2.1)
  let v2 : Int := wrap .i64 (7 + v1)
  some v2
noncomputable def spec_InPins (v0 : Int) : Option Int :=
  let v1 : Bool := decide (v0 = 0)
  bif v1 then (
    some 1) else
  let v2 : Bool := decide (v0 = 1)
  bif v2 then (
    some 5) else
  let v3 : Bool := decide (v0 = 2)
  bif v3 then (
    some 4) else
  some 0
noncomputable def spec_OutPins (v0 : Int) : Option Int :=
  let v1 : Bool := decide (v0 = 0)
  bif v1 then (
    bif v1 then (
      some 1) else
    let v2 : Bool := decide (v0 = 1)
    bif v2 then (
      some 2) else
    some 0) else
  let v2 : Bool := decide (v0 = 2)
  bif v2 then (
    some 1) else
  let v3 : Bool := decide (v0 = 1)
  bif v3 then (
    some 2) else
  some 0
noncomputable def impl_InPins (v0 : Int) : Option Int :=
  let v1 : Bool := decide (v0 = 0)
  bif v1 then (
    some 1) else
  let v2 : Bool := decide (v0 = 1)
  bif v2 then (
    some 5) else
  let v3 : Bool := decide (v0 = 2)
  bif v3 then (
    some 4) else
  some 0
noncomputable def impl_OutPins (v0 : Int) : Option Int :=
  let v1 : Bool := decide (v0 = 0)
  bif v1 then (
    bif v1 then (
      some 1) else
    let v2 : Bool := decide (v0 = 1)
    bif v2 then (
      some 2) else
    some 0) else
  let v2 : Bool := decide (v0 = 2)
  bif v2 then (
    some 1) else
  let v3 : Bool := decide (v0 = 1)
  bif v3 then (
    some 2) else
  some 0
noncomputable def impl_perTile (v0 : (Int × (Int × (Int × Int)))) : Option Int :=
  let v1 : Int := wrap .i64 (4 * v0.2.2.1)
  let v2 : Int := wrap .i64 (7 + v1)
  some v2
noncomputable def impl_routeNodes (v0 : (Int × (Int × (Int × Int)))) : Option Int :=
  let v1 : Int := wrap .i64 (v0.1 * v0.2.1)
  (impl_perTile v0).bind fun v2 =>
  let v3 : Int := wrap .i64 (v1 * v2)
  some v3
noncomputable def spec_RouteNodes (v0 : (Int × (Int × (Int × Int)))) : Option Int :=
  (spec_DeviceOk v0).bind fun v1 =>
  let v2 : Bool := !v1
  bif v2 then (
    some 0) else
  let v3 : Int := wrap .i64 (v0.1 * v0.2.1)
  (spec_l27Per v0).bind fun v4 =>
  let v5 : Int := wrap .i64 (v3 * v4)
  some v5
end Go.Pf
