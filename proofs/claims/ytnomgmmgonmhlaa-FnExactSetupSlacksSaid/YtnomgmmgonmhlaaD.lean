/-
  Own work, printed by my tool: the readable functions.
-/
import Derived.Test.YtnomgmmgonmhlaaPu2
namespace Go.Pf
open Go Go.Pu
set_option linter.unusedVariables false
noncomputable def laws_eqIntS (v0 : (List Int × List Int)) : Option Bool :=
  let v1 : Int := ((v0.1).length : Int)
  let v2 : Int := ((v0.2).length : Int)
  let v3 : Bool := decide (v1 ≠ v2)
  bif v3 then (
    some false) else
  Pu.loop (fun (v4 : Int) =>
    let v5 : Int := ((v0.1).length : Int)
    let v6 : Bool := decide (v4 < v5)
    bif v6 then (
      (gget 0 v0.1 v4).bind fun v7 =>
      (gget 0 v0.2 v4).bind fun v8 =>
      let v9 : Bool := decide (v7 ≠ v8)
      bif v9 then (
        Option.map Sum.inr (
          some false)) else
      let v10 : Int := wrap .i64 (v4 + 1)
      some (.inl v10)) else
    Option.map Sum.inr (
      some true)) 0
noncomputable def laws_markIntS (v0 : (List Int × Int)) : Option (Int × List Int) :=
  Pu.loop (fun (v1 : (Int × (Int × List Int))) =>
    let v2 : Int := ((v1.2.2).length : Int)
    let v3 : Bool := decide (v1.2.1 < v2)
    bif v3 then (
      (gin (v1.2.2).length v1.2.1).bind fun _ =>
      (gget 0 v1.2.2 v1.2.1).bind fun v5 =>
      let v6 : Int := v1.1
      let v7 : List Int := gset v1.2.2 v1.2.1 v6
      let v8 : Int := wrap .i64 (v1.1 + 1)
      let v9 : Int := wrap .i64 (v1.2.1 + 1)
      some (.inl (v8, (v9, v7)))) else
    Option.map Sum.inr (
      some (v1.1, v1.2.2))) (v0.2, (0, v0.1))
noncomputable def laws_heldIntS (v0 : (List Int × Int)) : Option Int :=
  Pu.loop (fun (v1 : (Int × Int)) =>
    let v2 : Int := ((v0.1).length : Int)
    let v3 : Bool := decide (v1.2 < v2)
    bif v3 then (
      (gget 0 v0.1 v1.2).bind fun v4 =>
      let v5 : Bool := decide (v4 ≠ v1.1)
      bif v5 then (
        Option.map Sum.inr (
          some (-1))) else
      let v6 : Int := wrap .i64 (v1.1 + 1)
      let v7 : Int := wrap .i64 (v1.2 + 1)
      some (.inl (v6, v7))) else
    Option.map Sum.inr (
      some v1.1)) (v0.2, 0)
noncomputable def laws_toIntS (v0 : List Int) : Option (List Int) :=
  let v1 : Int := ((v0).length : Int)
  (gmake 8 (0 : Int) v1).bind fun v2 =>
  Pu.loop (fun (v3 : (Int × List Int)) =>
    let v4 : Int := ((v0).length : Int)
    let v5 : Bool := decide (v3.1 < v4)
    bif v5 then (
      (gget 0 v0 v3.1).bind fun v6 =>
      (gin (v3.2).length v3.1).bind fun _ =>
      (gget 0 v3.2 v3.1).bind fun v8 =>
      let v9 : Int := v6
      let v10 : List Int := gset v3.2 v3.1 v9
      let v11 : Int := wrap .i64 (v3.1 + 1)
      some (.inl (v11, v10))) else
    Option.map Sum.inr (
      some v3.2)) (0, v2)
noncomputable def laws_markPinS (v0 : (List (Int × Int) × Int)) : Option (Int × List (Int × Int)) :=
  Pu.loop (fun (v1 : (Int × (Int × List (Int × Int)))) =>
    let v2 : Int := ((v1.2.2).length : Int)
    let v3 : Bool := decide (v1.2.1 < v2)
    bif v3 then (
      (gin (v1.2.2).length v1.2.1).bind fun _ =>
      (gget (0, 0) v1.2.2 v1.2.1).bind fun v5 =>
      let v6 : (Int × Int) := (v1.1, v5.2)
      let v7 : List (Int × Int) := gset v1.2.2 v1.2.1 v6
      let v8 : Int := wrap .i64 (v1.1 + 1)
      (gin (v7).length v1.2.1).bind fun _ =>
      (gget (0, 0) v7 v1.2.1).bind fun v10 =>
      let v11 : (Int × Int) := (v10.1, v8)
      let v12 : List (Int × Int) := gset v7 v1.2.1 v11
      let v13 : Int := wrap .i64 (v8 + 1)
      let v14 : Int := wrap .i64 (v1.2.1 + 1)
      some (.inl (v13, (v14, v12)))) else
    Option.map Sum.inr (
      some (v1.1, v1.2.2))) (v0.2, (0, v0.1))
noncomputable def impl_inRange (v0 : (Int × (Int × Int))) : Option Bool :=
  let v1 : Bool := decide (v0.2.1 ≤ v0.1)
  bif v1 then (
    let v2 : Bool := decide (v0.1 ≤ v0.2.2)
    some v2) else
  some false
noncomputable def spec_l01In (v0 : (Int × (Int × Int))) : Option Bool :=
  let v1 : Bool := decide (v0.2.1 ≤ v0.1)
  bif v1 then (
    let v2 : Bool := decide (v0.1 ≤ v0.2.2)
    some v2) else
  some false
noncomputable def laws_szPinS (v0 : (List (Int × Int) × Int)) : Option Int :=
  let v1 : Int := ((v0.1).length : Int)
  let v2 : Int := wrap .i64 (v0.2 - v1)
  let v3 : Bool := decide (v2 < 0)
  bif v3 then (
    some (-1)) else
  some v2
noncomputable def laws_toPin (v0 : (Int × Int)) : Option (Int × Int) :=
  some v0
noncomputable def laws_eqPin (v0 : ((Int × Int) × (Int × Int))) : Option Bool :=
  let v1 : Bool := decide (v0.1.1 ≠ v0.2.1)
  bif v1 then (
    some false) else
  let v2 : Bool := decide (v0.1.2 ≠ v0.2.2)
  bif v2 then (
    some false) else
  some true
noncomputable def impl_tileKind (v0 : ((Int × (Int × (Int × Int))) × Int)) : Option Int :=
  (grem v0.2 v0.1.1).bind fun v1 =>
  (gdiv .i64 v0.2 v0.1.1).bind fun v2 =>
  let v3 : Bool := decide (v1 = 0)
  bif v3 then (
    some 0) else
  let v4 : Int := wrap .i64 (v0.1.1 - 1)
  let v5 : Bool := decide (v1 = v4)
  bif v5 then (
    some 0) else
  let v6 : Bool := decide (v2 = 0)
  bif v6 then (
    some 0) else
  let v7 : Int := wrap .i64 (v0.1.2.1 - 1)
  let v8 : Bool := decide (v2 = v7)
  bif v8 then (
    some 0) else
  let v9 : Bool := decide (v1 = v0.1.2.2.2)
  bif v9 then (
    some 2) else
  some 1
noncomputable def laws_szConn (v0 : ((Int × ((Int × Int) × List (Int × Int))) × Int)) : Option Int :=
  (laws_szPinS (v0.1.2.2, v0.2)).bind fun v1 =>
  let v2 : Bool := decide (v1 < 0)
  bif v2 then (
    some (-1)) else
  some v1
noncomputable def laws_eqPinS (v0 : (List (Int × Int) × List (Int × Int))) : Option Bool :=
  let v1 : Int := ((v0.1).length : Int)
  let v2 : Int := ((v0.2).length : Int)
  let v3 : Bool := decide (v1 ≠ v2)
  bif v3 then (
    some false) else
  Pu.loop (fun (v4 : Int) =>
    let v5 : Int := ((v0.1).length : Int)
    let v6 : Bool := decide (v4 < v5)
    bif v6 then (
      (gget (0, 0) v0.1 v4).bind fun v7 =>
      (gget (0, 0) v0.2 v4).bind fun v8 =>
      (laws_eqPin (v7, v8)).bind fun v9 =>
      let v10 : Bool := !v9
      bif v10 then (
        Option.map Sum.inr (
          some false)) else
      let v11 : Int := wrap .i64 (v4 + 1)
      some (.inl v11)) else
    Option.map Sum.inr (
      some true)) 0
noncomputable def spec_DeviceOk (v0 : (Int × (Int × (Int × Int)))) : Option Bool :=
  (spec_l01In (v0.1, (3, 6))).bind fun v1 =>
  bif v1 then (
    (spec_l01In (v0.2.1, (3, 6))).bind fun v2 =>
    bif v2 then (
      (spec_l01In (v0.2.2.1, (1, 4))).bind fun v3 =>
      bif v3 then (
        let v4 : Bool := decide (v0.2.2.2 = (-1))
        bif v4 then (
          some true) else
        let v5 : Int := wrap .i64 (v0.1 - 2)
        (spec_l01In (v0.2.2.2, (1, v5))).bind fun v6 =>
        some v6) else
      some false) else
    some false) else
  some false
noncomputable def impl_DeviceOk (v0 : (Int × (Int × (Int × Int)))) : Option Bool :=
  (impl_inRange (v0.1, (3, 6))).bind fun v1 =>
  bif v1 then (
    (impl_inRange (v0.2.1, (3, 6))).bind fun v2 =>
    bif v2 then (
      (impl_inRange (v0.2.2.1, (1, 4))).bind fun v3 =>
      bif v3 then (
        let v4 : Bool := decide (v0.2.2.2 = (-1))
        bif v4 then (
          some true) else
        let v5 : Int := wrap .i64 (v0.1 - 2)
        (impl_inRange (v0.2.2.2, (1, v5))).bind fun v6 =>
        some v6) else
      some false) else
    some false) else
  some false
noncomputable def laws_toPinS (v0 : List (Int × Int)) : Option (List (Int × Int)) :=
  let v1 : Int := ((v0).length : Int)
  (gmake 16 ((0, 0) : (Int × Int)) v1).bind fun v2 =>
  Pu.loop (fun (v3 : (Int × List (Int × Int))) =>
    let v4 : Int := ((v0).length : Int)
    let v5 : Bool := decide (v3.1 < v4)
    bif v5 then (
      (gget (0, 0) v0 v3.1).bind fun v6 =>
      (laws_toPin v6).bind fun v7 =>
      (gin (v3.2).length v3.1).bind fun _ =>
      (gget (0, 0) v3.2 v3.1).bind fun v9 =>
      let v10 : (Int × Int) := v7
      let v11 : List (Int × Int) := gset v3.2 v3.1 v10
      let v12 : Int := wrap .i64 (v3.1 + 1)
      some (.inl (v12, v11))) else
    Option.map Sum.inr (
      some v3.2)) (0, v2)
noncomputable def laws_szConnS (v0 : (List (Int × ((Int × Int) × List (Int × Int))) × Int)) : Option Int :=
  let v1 : Int := ((v0.1).length : Int)
  let v2 : Int := wrap .i64 (v0.2 - v1)
  let v3 : Bool := decide (v2 < 0)
  bif v3 then (
    some (-1)) else
  Pu.loop (fun (v4 : (Int × Int)) =>
    let v5 : Int := ((v0.1).length : Int)
    let v6 : Bool := decide (v4.2 < v5)
    bif v6 then (
      (gget (0, ((0, 0), [])) v0.1 v4.2).bind fun v7 =>
      (laws_szConn (v7, v4.1)).bind fun v8 =>
      let v9 : Bool := decide (v8 < 0)
      bif v9 then (
        Option.map Sum.inr (
          some (-1))) else
      let v10 : Int := wrap .i64 (v4.2 + 1)
      some (.inl (v8, v10))) else
    Option.map Sum.inr (
      some v4.1)) (v2, 0)
noncomputable def laws_toConn (v0 : (Int × ((Int × Int) × List (Int × Int)))) : Option (Int × ((Int × Int) × List (Int × Int))) :=
  (laws_toPin v0.2.1).bind fun v1 =>
  (laws_toPinS v0.2.2).bind fun v2 =>
  some (v0.1, (v1, v2))
noncomputable def laws_eqConn (v0 : ((Int × ((Int × Int) × List (Int × Int))) × (Int × ((Int × Int) × List (Int × Int))))) : Option Bool :=
  let v1 : Bool := decide (v0.1.1 ≠ v0.2.1)
  bif v1 then (
    some false) else
  (laws_eqPin (v0.1.2.1, v0.2.2.1)).bind fun v2 =>
  let v3 : Bool := !v2
  bif v3 then (
    some false) else
  (laws_eqPinS (v0.1.2.2, v0.2.2.2)).bind fun v4 =>
  let v5 : Bool := !v4
  bif v5 then (
    some false) else
  some true
noncomputable def spec_TileKind (v0 : ((Int × (Int × (Int × Int))) × Int)) : Option Int :=
  (spec_DeviceOk v0.1).bind fun v1 =>
  let v2 : Bool := !v1
  bif v2 then (
    some (-1)) else
  let v3 : Bool := decide (v0.2 < 0)
  bif v3 then (
    some (-1)) else
  let v4 : Int := wrap .i64 (v0.1.1 * v0.1.2.1)
  let v5 : Bool := decide (v4 ≤ v0.2)
  bif v5 then (
    some (-1)) else
  (grem v0.2 v0.1.1).bind fun v6 =>
  (gdiv .i64 v0.2 v0.1.1).bind fun v7 =>
  let v8 : Bool := decide (v6 = 0)
  bif v8 then (
    some 0) else
  let v9 : Bool := decide (v7 = 0)
  bif v9 then (
    some 0) else
  let v10 : Int := wrap .i64 (v0.1.1 - 1)
  let v11 : Bool := decide (v6 = v10)
  bif v11 then (
    some 0) else
  let v12 : Int := wrap .i64 (v0.1.2.1 - 1)
  let v13 : Bool := decide (v7 = v12)
  bif v13 then (
    some 0) else
  let v14 : Bool := decide (v6 = v0.1.2.2.2)
  bif v14 then (
    some 2) else
  some 1
noncomputable def impl_tileOk (v0 : ((Int × (Int × (Int × Int))) × Int)) : Option Bool :=
  (impl_DeviceOk v0.1).bind fun v1 =>
  bif v1 then (
    let v2 : Int := wrap .i64 (v0.1.1 * v0.1.2.1)
    let v3 : Int := wrap .i64 (v2 - 1)
    (impl_inRange (v0.2, (0, v3))).bind fun v4 =>
    some v4) else
  some false
noncomputable def laws_toConnS (v0 : List (Int × ((Int × Int) × List (Int × Int)))) : Option (List (Int × ((Int × Int) × List (Int × Int)))) :=
  let v1 : Int := ((v0).length : Int)
  (gmake 48 ((0, ((0, 0), [])) : (Int × ((Int × Int) × List (Int × Int)))) v1).bind fun v2 =>
  Pu.loop (fun (v3 : (Int × List (Int × ((Int × Int) × List (Int × Int))))) =>
    let v4 : Int := ((v0).length : Int)
    let v5 : Bool := decide (v3.1 < v4)
    bif v5 then (
      (gget (0, ((0, 0), [])) v0 v3.1).bind fun v6 =>
      (laws_toConn v6).bind fun v7 =>
      (gin (v3.2).length v3.1).bind fun _ =>
      (gget (0, ((0, 0), [])) v3.2 v3.1).bind fun v9 =>
      let v10 : (Int × ((Int × Int) × List (Int × Int))) := v7
      let v11 : List (Int × ((Int × Int) × List (Int × Int))) := gset v3.2 v3.1 v10
      let v12 : Int := wrap .i64 (v3.1 + 1)
      some (.inl (v12, v11))) else
    Option.map Sum.inr (
      some v3.2)) (0, v2)
noncomputable def laws_eqConnS (v0 : (List (Int × ((Int × Int) × List (Int × Int))) × List (Int × ((Int × Int) × List (Int × Int))))) : Option Bool :=
  let v1 : Int := ((v0.1).length : Int)
  let v2 : Int := ((v0.2).length : Int)
  let v3 : Bool := decide (v1 ≠ v2)
  bif v3 then (
    some false) else
  Pu.loop (fun (v4 : Int) =>
    let v5 : Int := ((v0.1).length : Int)
    let v6 : Bool := decide (v4 < v5)
    bif v6 then (
      (gget (0, ((0, 0), [])) v0.1 v4).bind fun v7 =>
      (gget (0, ((0, 0), [])) v0.2 v4).bind fun v8 =>
      (laws_eqConn (v7, v8)).bind fun v9 =>
      let v10 : Bool := !v9
      bif v10 then (
        Option.map Sum.inr (
          some false)) else
      let v11 : Int := wrap .i64 (v4 + 1)
      some (.inl v11)) else
    Option.map Sum.inr (
      some true)) 0
noncomputable def impl_TileKind (v0 : ((Int × (Int × (Int × Int))) × Int)) : Option Int :=
  (impl_tileOk v0).bind fun v1 =>
  let v2 : Bool := !v1
  bif v2 then (
    some (-1)) else
  (impl_tileKind v0).bind fun v3 =>
  some v3
noncomputable def laws_szPointS (v0 : (List (Int × Int) × Int)) : Option Int :=
  let v1 : Int := ((v0.1).length : Int)
  let v2 : Int := wrap .i64 (v0.2 - v1)
  let v3 : Bool := decide (v2 < 0)
  bif v3 then (
    some (-1)) else
  some v2
noncomputable def laws_szExceptionS (v0 : (List (Int × (Int × Int)) × Int)) : Option Int :=
  let v1 : Int := ((v0.1).length : Int)
  let v2 : Int := wrap .i64 (v0.2 - v1)
  let v3 : Bool := decide (v2 < 0)
  bif v3 then (
    some (-1)) else
  some v2
noncomputable def laws_markPointS (v0 : (List (Int × Int) × Int)) : Option (Int × List (Int × Int)) :=
  Pu.loop (fun (v1 : (Int × (Int × List (Int × Int)))) =>
    let v2 : Int := ((v1.2.2).length : Int)
    let v3 : Bool := decide (v1.2.1 < v2)
    bif v3 then (
      (gin (v1.2.2).length v1.2.1).bind fun _ =>
      (gget (0, 0) v1.2.2 v1.2.1).bind fun v5 =>
      let v6 : (Int × Int) := (v1.1, v5.2)
      let v7 : List (Int × Int) := gset v1.2.2 v1.2.1 v6
      let v8 : Int := wrap .i64 (v1.1 + 1)
      (gin (v7).length v1.2.1).bind fun _ =>
      (gget (0, 0) v7 v1.2.1).bind fun v10 =>
      let v11 : (Int × Int) := (v10.1, v8)
      let v12 : List (Int × Int) := gset v7 v1.2.1 v11
      let v13 : Int := wrap .i64 (v8 + 1)
      let v14 : Int := wrap .i64 (v1.2.1 + 1)
      some (.inl (v13, (v14, v12)))) else
    Option.map Sum.inr (
      some (v1.1, v1.2.2))) (v0.2, (0, v0.1))
noncomputable def laws_markExceptionS (v0 : (List (Int × (Int × Int)) × Int)) : Option (Int × List (Int × (Int × Int))) :=
  Pu.loop (fun (v1 : (Int × (Int × List (Int × (Int × Int))))) =>
    let v2 : Int := ((v1.2.2).length : Int)
    let v3 : Bool := decide (v1.2.1 < v2)
    bif v3 then (
      (gin (v1.2.2).length v1.2.1).bind fun _ =>
      (gget (0, (0, 0)) v1.2.2 v1.2.1).bind fun v5 =>
      let v6 : (Int × (Int × Int)) := (v1.1, v5.2)
      let v7 : List (Int × (Int × Int)) := gset v1.2.2 v1.2.1 v6
      let v8 : Int := wrap .i64 (v1.1 + 1)
      (gin (v7).length v1.2.1).bind fun _ =>
      (gget (0, (0, 0)) v7 v1.2.1).bind fun v10 =>
      let v11 : (Int × (Int × Int)) := (v10.1, (v8, v10.2.2))
      let v12 : List (Int × (Int × Int)) := gset v7 v1.2.1 v11
      let v13 : Int := wrap .i64 (v8 + 1)
      (gin (v12).length v1.2.1).bind fun _ =>
      (gget (0, (0, 0)) v12 v1.2.1).bind fun v15 =>
      let v16 : (Int × (Int × Int)) := (v15.1, (v15.2.1, v13))
      let v17 : List (Int × (Int × Int)) := gset v12 v1.2.1 v16
      let v18 : Int := wrap .i64 (v13 + 1)
      let v19 : Int := wrap .i64 (v1.2.1 + 1)
      some (.inl (v18, (v19, v17)))) else
    Option.map Sum.inr (
      some (v1.1, v1.2.2))) (v0.2, (0, v0.1))
noncomputable def impl_delaysFrom (v0 : (List (List (Int × (Int × Int))) × (Int × Bool))) : Option (List Int) :=
  let v1 : Int := ((v0.1).length : Int)
  (gmake 8 (0 : Int) v1).bind fun v2 =>
  let v3 : Int := ((v2).length : Int)
  Pu.loop (fun (v4 : (Int × List Int)) =>
    let v5 : Bool := decide (v4.1 < v3)
    bif v5 then (
      (gin (v4.2).length v4.1).bind fun _ =>
      (gget 0 v4.2 v4.1).bind fun v7 =>
      let v8 : Int := (-1)
      let v9 : List Int := gset v4.2 v4.1 v8
      let v10 : Bool := decide (v4.1 = v0.2.1)
      bif v10 then (
        (gin (v9).length v4.1).bind fun _ =>
        (gget 0 v9 v4.1).bind fun v12 =>
        let v13 : Int := 0
        let v14 : List Int := gset v9 v4.1 v13
        let v15 : Int := wrap .i64 (v4.1 + 1)
        some (.inl (v15, v14))) else
      (gget [] v0.1 v4.1).bind fun v11 =>
      let v12 : Int := ((v11).length : Int)
      Pu.loop (fun (v13 : (Int × List Int)) =>
        let v14 : Bool := decide (v13.1 < v12)
        bif v14 then (
          (gget (0, (0, 0)) v11 v13.1).bind fun v15 =>
          (gin (v13.2).length v15.1).bind fun _ =>
          (gget 0 v13.2 v15.1).bind fun v17 =>
          let v18 : Bool := decide (v17 < 0)
          bif v18 then (
            let v19 : Int := wrap .i64 (v13.1 + 1)
            some (.inl (v19, v13.2))) else
          (gin (v13.2).length v15.1).bind fun _ =>
          (gget 0 v13.2 v15.1).bind fun v20 =>
          let v21 : Int := wrap .i64 (v20 + v15.2.2)
          (gin (v13.2).length v4.1).bind fun _ =>
          (gget 0 v13.2 v4.1).bind fun v23 =>
          let v24 : Bool := decide (v23 < 0)
          bif v24 then (
            (gin (v13.2).length v4.1).bind fun _ =>
            (gget 0 v13.2 v4.1).bind fun v26 =>
            let v27 : Int := v21
            let v28 : List Int := gset v13.2 v4.1 v27
            let v29 : Int := wrap .i64 (v13.1 + 1)
            some (.inl (v29, v28))) else
          bif v0.2.2 then (
            (gin (v13.2).length v4.1).bind fun _ =>
            (gget 0 v13.2 v4.1).bind fun v26 =>
            let v27 : Bool := decide (v26 < v21)
            bif v27 then (
              (gin (v13.2).length v4.1).bind fun _ =>
              (gget 0 v13.2 v4.1).bind fun v29 =>
              let v30 : Int := v21
              let v31 : List Int := gset v13.2 v4.1 v30
              let v32 : Int := wrap .i64 (v13.1 + 1)
              some (.inl (v32, v31))) else
            let v28 : Bool := !v0.2.2
            bif v28 then (
              (gin (v13.2).length v4.1).bind fun _ =>
              (gget 0 v13.2 v4.1).bind fun v30 =>
              let v31 : Bool := decide (v21 < v30)
              bif v31 then (
                (gin (v13.2).length v4.1).bind fun _ =>
                (gget 0 v13.2 v4.1).bind fun v33 =>
                let v34 : Int := v21
                let v35 : List Int := gset v13.2 v4.1 v34
                let v36 : Int := wrap .i64 (v13.1 + 1)
                some (.inl (v36, v35))) else
              let v32 : Int := wrap .i64 (v13.1 + 1)
              some (.inl (v32, v13.2))) else
            let v29 : Int := wrap .i64 (v13.1 + 1)
            some (.inl (v29, v13.2))) else
          let v25 : Bool := !v0.2.2
          bif v25 then (
            (gin (v13.2).length v4.1).bind fun _ =>
            (gget 0 v13.2 v4.1).bind fun v27 =>
            let v28 : Bool := decide (v21 < v27)
            bif v28 then (
              (gin (v13.2).length v4.1).bind fun _ =>
              (gget 0 v13.2 v4.1).bind fun v30 =>
              let v31 : Int := v21
              let v32 : List Int := gset v13.2 v4.1 v31
              let v33 : Int := wrap .i64 (v13.1 + 1)
              some (.inl (v33, v32))) else
            let v29 : Int := wrap .i64 (v13.1 + 1)
            some (.inl (v29, v13.2))) else
          let v26 : Int := wrap .i64 (v13.1 + 1)
          some (.inl (v26, v13.2))) else
        Option.map Sum.inr (
          let v15 : Int := wrap .i64 (v4.1 + 1)
          some (.inl (v15, v13.2)))) (0, v9)) else
    Option.map Sum.inr (
      some v4.2)) (0, v2)
noncomputable def impl_arcsInto (v0 : (Int × List (Int × (Int × Int)))) : Option (List (List (Int × (Int × Int)))) :=
  (gmake 24 ([] : List (Int × (Int × Int))) v0.1).bind fun v1 =>
  let v2 : Int := ((v0.2).length : Int)
  Pu.loop (fun (v3 : (Int × List (List (Int × (Int × Int))))) =>
    let v4 : Bool := decide (v3.1 < v2)
    bif v4 then (
      (gget (0, (0, 0)) v0.2 v3.1).bind fun v5 =>
      (gin (v3.2).length v5.2.1).bind fun _ =>
      (gget [] v3.2 v5.2.1).bind fun v7 =>
      let v8 : List (Int × (Int × Int)) := [v5]
      (gget [] v3.2 v5.2.1).bind fun v9 =>
      (gapp 24 v9 v8).bind fun v10 =>
      (gin (v3.2).length v5.2.1).bind fun _ =>
      (gget [] v3.2 v5.2.1).bind fun v12 =>
      let v13 : List (Int × (Int × Int)) := v10
      let v14 : List (List (Int × (Int × Int))) := gset v3.2 v5.2.1 v13
      let v15 : Int := wrap .i64 (v3.1 + 1)
      some (.inl (v15, v14))) else
    Option.map Sum.inr (
      some v3.2)) (0, v1)
noncomputable def laws_szArcS (v0 : (List (Int × (Int × Int)) × Int)) : Option Int :=
  let v1 : Int := ((v0.1).length : Int)
  let v2 : Int := wrap .i64 (v0.2 - v1)
  let v3 : Bool := decide (v2 < 0)
  bif v3 then (
    some (-1)) else
  some v2
noncomputable def laws_toPoint (v0 : (Int × Int)) : Option (Int × Int) :=
  some v0
noncomputable def laws_eqPoint (v0 : ((Int × Int) × (Int × Int))) : Option Bool :=
  let v1 : Bool := decide (v0.1.1 ≠ v0.2.1)
  bif v1 then (
    some false) else
  let v2 : Bool := decide (v0.1.2 ≠ v0.2.2)
  bif v2 then (
    some false) else
  some true
noncomputable def spec_l36Delays (v0 : ((Int × List (Int × (Int × Int))) × (Int × Bool))) : Option (List Int) :=
  (gmake 24 ([] : List (Int × (Int × Int))) v0.1.1).bind fun v1 =>
  Pu.loop (fun (v2 : (Int × List (List (Int × (Int × Int))))) =>
    let v3 : Int := ((v0.1.2).length : Int)
    let v4 : Bool := decide (v2.1 < v3)
    bif v4 then (
      (gget (0, (0, 0)) v0.1.2 v2.1).bind fun v5 =>
      (gget (0, (0, 0)) v0.1.2 v2.1).bind fun v6 =>
      (gin (v2.2).length v6.2.1).bind fun _ =>
      (gget [] v2.2 v6.2.1).bind fun v8 =>
      (gget (0, (0, 0)) v0.1.2 v2.1).bind fun v9 =>
      let v10 : List (Int × (Int × Int)) := [v9]
      (gget [] v2.2 v6.2.1).bind fun v11 =>
      (gapp 24 v11 v10).bind fun v12 =>
      (gin (v2.2).length v5.2.1).bind fun _ =>
      (gsame v5.2.1 v6.2.1).bind fun _ =>
      (gget [] v2.2 v6.2.1).bind fun v15 =>
      let v16 : List (Int × (Int × Int)) := v12
      let v17 : List (List (Int × (Int × Int))) := gset v2.2 v6.2.1 v16
      let v18 : Int := wrap .i64 (v2.1 + 1)
      some (.inl (v18, v17))) else
    Option.map Sum.inr (
      Pu.loop (fun (v5 : (Int × List Int)) =>
        let v6 : Bool := decide (v5.1 < v0.1.1)
        bif v6 then (
          joinO (
            let v7 : Bool := decide (v5.1 = v0.2.1)
            bif v7 then (
              some (.inl 0)) else
            some (.inl (-1))) (fun (v7 : Int) =>
            Pu.loop (fun (v8 : (Int × Int)) =>
              (gin (v2.2).length v5.1).bind fun _ =>
              (gget [] v2.2 v5.1).bind fun v10 =>
              let v11 : Int := ((v10).length : Int)
              let v12 : Bool := decide (v8.1 < v11)
              bif v12 then (
                (gin (v2.2).length v5.1).bind fun _ =>
                (gget [] v2.2 v5.1).bind fun v14 =>
                (gget (0, (0, 0)) v14 v8.1).bind fun v15 =>
                (gin (v5.2).length v15.1).bind fun _ =>
                (gget 0 v5.2 v15.1).bind fun v17 =>
                let v18 : Bool := decide (v17 < 0)
                bif v18 then (
                  let v19 : Int := wrap .i64 (v8.1 + 1)
                  some (.inl (v19, v8.2))) else
                (gin (v5.2).length v15.1).bind fun _ =>
                (gget 0 v5.2 v15.1).bind fun v20 =>
                let v21 : Int := wrap .i64 (v20 + v15.2.2)
                let v22 : Bool := decide (v8.2 < 0)
                bif v22 then (
                  let v23 : Int := wrap .i64 (v8.1 + 1)
                  some (.inl (v23, v21))) else
                bif v0.2.2 then (
                  let v23 : Bool := decide (v21 < v8.2)
                  bif v23 then (
                    let v24 : Int := wrap .i64 (v8.1 + 1)
                    some (.inl (v24, v21))) else
                  let v24 : Bool := !v0.2.2
                  bif v24 then (
                    let v25 : Bool := decide (v8.2 < v21)
                    bif v25 then (
                      let v26 : Int := wrap .i64 (v8.1 + 1)
                      some (.inl (v26, v21))) else
                    let v26 : Int := wrap .i64 (v8.1 + 1)
                    some (.inl (v26, v8.2))) else
                  let v25 : Int := wrap .i64 (v8.1 + 1)
                  some (.inl (v25, v8.2))) else
                let v23 : Bool := !v0.2.2
                bif v23 then (
                  let v24 : Bool := decide (v8.2 < v21)
                  bif v24 then (
                    let v25 : Int := wrap .i64 (v8.1 + 1)
                    some (.inl (v25, v21))) else
                  let v25 : Int := wrap .i64 (v8.1 + 1)
                  some (.inl (v25, v8.2))) else
                let v24 : Int := wrap .i64 (v8.1 + 1)
                some (.inl (v24, v8.2))) else
              Option.map Sum.inr (
                let v13 : List Int := [v8.2]
                (gapp 8 v5.2 v13).bind fun v14 =>
                let v15 : Int := wrap .i64 (v5.1 + 1)
                some (.inl (v15, v14)))) (0, v7))) else
        Option.map Sum.inr (
          some v5.2)) (0, ([] : List Int)))) (0, v1)
noncomputable def laws_markArcS (v0 : (List (Int × (Int × Int)) × Int)) : Option (Int × List (Int × (Int × Int))) :=
  Pu.loop (fun (v1 : (Int × (Int × List (Int × (Int × Int))))) =>
    let v2 : Int := ((v1.2.2).length : Int)
    let v3 : Bool := decide (v1.2.1 < v2)
    bif v3 then (
      (gin (v1.2.2).length v1.2.1).bind fun _ =>
      (gget (0, (0, 0)) v1.2.2 v1.2.1).bind fun v5 =>
      let v6 : (Int × (Int × Int)) := (v1.1, v5.2)
      let v7 : List (Int × (Int × Int)) := gset v1.2.2 v1.2.1 v6
      let v8 : Int := wrap .i64 (v1.1 + 1)
      (gin (v7).length v1.2.1).bind fun _ =>
      (gget (0, (0, 0)) v7 v1.2.1).bind fun v10 =>
      let v11 : (Int × (Int × Int)) := (v10.1, (v8, v10.2.2))
      let v12 : List (Int × (Int × Int)) := gset v7 v1.2.1 v11
      let v13 : Int := wrap .i64 (v8 + 1)
      (gin (v12).length v1.2.1).bind fun _ =>
      (gget (0, (0, 0)) v12 v1.2.1).bind fun v15 =>
      let v16 : (Int × (Int × Int)) := (v15.1, (v15.2.1, v13))
      let v17 : List (Int × (Int × Int)) := gset v12 v1.2.1 v16
      let v18 : Int := wrap .i64 (v13 + 1)
      let v19 : Int := wrap .i64 (v1.2.1 + 1)
      some (.inl (v18, (v19, v17)))) else
    Option.map Sum.inr (
      some (v1.1, v1.2.2))) (v0.2, (0, v0.1))
noncomputable def laws_toException (v0 : (Int × (Int × Int))) : Option (Int × (Int × Int)) :=
  some v0
noncomputable def laws_eqException (v0 : ((Int × (Int × Int)) × (Int × (Int × Int)))) : Option Bool :=
  let v1 : Bool := decide (v0.1.1 ≠ v0.2.1)
  bif v1 then (
    some false) else
  let v2 : Bool := decide (v0.1.2.1 ≠ v0.2.2.1)
  bif v2 then (
    some false) else
  let v3 : Bool := decide (v0.1.2.2 ≠ v0.2.2.2)
  bif v3 then (
    some false) else
  some true
noncomputable def impl_SetupSlacks_cl1 (v0 : ((Int × Int) × ((Int × Int) × (Int × (Int × Int))))) : Option Int :=
  let v1 : Int := wrap .i64 (v0.2.2.2.1 * v0.2.2.2.2)
  let v2 : Int := wrap .i64 (v1 + v0.2.1.2)
  let v3 : Int := wrap .i64 (v2 - v0.1.2)
  let v4 : Int := wrap .i64 (v3 - v0.2.2.1)
  some v4
noncomputable def laws_toArc (v0 : (Int × (Int × Int))) : Option (Int × (Int × Int)) :=
  some v0
noncomputable def laws_eqArc (v0 : ((Int × (Int × Int)) × (Int × (Int × Int)))) : Option Bool :=
  let v1 : Bool := decide (v0.1.1 ≠ v0.2.1)
  bif v1 then (
    some false) else
  let v2 : Bool := decide (v0.1.2.1 ≠ v0.2.2.1)
  bif v2 then (
    some false) else
  let v3 : Bool := decide (v0.1.2.2 ≠ v0.2.2.2)
  bif v3 then (
    some false) else
  some true
noncomputable def spec_l36Cycles (v0 : (List (Int × (Int × Int)) × (Int × Int))) : Option Int :=
  Pu.loop (fun (v1 : Int) =>
    let v2 : Int := ((v0.1).length : Int)
    let v3 : Bool := decide (v1 < v2)
    bif v3 then (
      (gget (0, (0, 0)) v0.1 v1).bind fun v4 =>
      let v5 : Bool := decide (v4.1 = v0.2.1)
      bif v5 then (
        (gget (0, (0, 0)) v0.1 v1).bind fun v6 =>
        let v7 : Bool := decide (v6.2.1 = v0.2.2)
        bif v7 then (
          (gget (0, (0, 0)) v0.1 v1).bind fun v8 =>
          Option.map Sum.inr (
            some v8.2.2)) else
        let v8 : Int := wrap .i64 (v1 + 1)
        some (.inl v8)) else
      let v6 : Int := wrap .i64 (v1 + 1)
      some (.inl v6)) else
    Option.map Sum.inr (
      some 1)) 0
noncomputable def impl_cyclesOf (v0 : (List (Int × (Int × Int)) × (Int × Int))) : Option Int :=
  let v1 : Int := ((v0.1).length : Int)
  Pu.loop (fun (v2 : Int) =>
    let v3 : Bool := decide (v2 < v1)
    bif v3 then (
      (gget (0, (0, 0)) v0.1 v2).bind fun v4 =>
      let v5 : Bool := decide (v4.1 = v0.2.1)
      bif v5 then (
        let v6 : Bool := decide (v4.2.1 = v0.2.2)
        bif v6 then (
          Option.map Sum.inr (
            some v4.2.2)) else
        let v7 : Int := wrap .i64 (v2 + 1)
        some (.inl v7)) else
      let v6 : Int := wrap .i64 (v2 + 1)
      some (.inl v6)) else
    Option.map Sum.inr (
      some 1)) 0
noncomputable def impl_TimingOk (v0 : (Int × List (Int × (Int × Int)))) : Option Bool :=
  (impl_inRange (v0.1, (0, 500))).bind fun v1 =>
  let v2 : Bool := !v1
  bif v2 then (
    some false) else
  let v3 : Int := ((v0.2).length : Int)
  let v4 : Bool := decide (2000 < v3)
  bif v4 then (
    some false) else
  let v5 : Int := ((v0.2).length : Int)
  Pu.loop (fun (v6 : Int) =>
    let v7 : Bool := decide (v6 < v5)
    bif v7 then (
      (gget (0, (0, 0)) v0.2 v6).bind fun v8 =>
      let v9 : Int := wrap .i64 (v0.1 - 1)
      (impl_inRange (v8.2.1, (0, v9))).bind fun v10 =>
      let v11 : Bool := !v10
      bif v11 then (
        Option.map Sum.inr (
          some false)) else
      let v12 : Int := wrap .i64 (v8.2.1 - 1)
      (impl_inRange (v8.1, (0, v12))).bind fun v13 =>
      let v14 : Bool := !v13
      bif v14 then (
        Option.map Sum.inr (
          some false)) else
      (impl_inRange (v8.2.2, (0, 100))).bind fun v15 =>
      let v16 : Bool := !v15
      bif v16 then (
        Option.map Sum.inr (
          some false)) else
      let v17 : Int := wrap .i64 (v6 + 1)
      some (.inl v17)) else
    Option.map Sum.inr (
      some true)) 0
noncomputable def laws_szTimingGraph (v0 : ((Int × List (Int × (Int × Int))) × Int)) : Option Int :=
  (laws_szArcS (v0.1.2, v0.2)).bind fun v1 =>
  let v2 : Bool := decide (v1 < 0)
  bif v2 then (
    some (-1)) else
  some v1
noncomputable def laws_toPointS (v0 : List (Int × Int)) : Option (List (Int × Int)) :=
  let v1 : Int := ((v0).length : Int)
  (gmake 16 ((0, 0) : (Int × Int)) v1).bind fun v2 =>
  Pu.loop (fun (v3 : (Int × List (Int × Int))) =>
    let v4 : Int := ((v0).length : Int)
    let v5 : Bool := decide (v3.1 < v4)
    bif v5 then (
      (gget (0, 0) v0 v3.1).bind fun v6 =>
      (laws_toPoint v6).bind fun v7 =>
      (gin (v3.2).length v3.1).bind fun _ =>
      (gget (0, 0) v3.2 v3.1).bind fun v9 =>
      let v10 : (Int × Int) := v7
      let v11 : List (Int × Int) := gset v3.2 v3.1 v10
      let v12 : Int := wrap .i64 (v3.1 + 1)
      some (.inl (v12, v11))) else
    Option.map Sum.inr (
      some v3.2)) (0, v2)
noncomputable def laws_eqPointS (v0 : (List (Int × Int) × List (Int × Int))) : Option Bool :=
  let v1 : Int := ((v0.1).length : Int)
  let v2 : Int := ((v0.2).length : Int)
  let v3 : Bool := decide (v1 ≠ v2)
  bif v3 then (
    some false) else
  Pu.loop (fun (v4 : Int) =>
    let v5 : Int := ((v0.1).length : Int)
    let v6 : Bool := decide (v4 < v5)
    bif v6 then (
      (gget (0, 0) v0.1 v4).bind fun v7 =>
      (gget (0, 0) v0.2 v4).bind fun v8 =>
      (laws_eqPoint (v7, v8)).bind fun v9 =>
      let v10 : Bool := !v9
      bif v10 then (
        Option.map Sum.inr (
          some false)) else
      let v11 : Int := wrap .i64 (v4 + 1)
      some (.inl v11)) else
    Option.map Sum.inr (
      some true)) 0
noncomputable def laws_markTimingGraph (v0 : ((Int × List (Int × (Int × Int))) × Int)) : Option (Int × List (Int × (Int × Int))) :=
  (laws_markArcS (v0.1.2, v0.2)).bind fun v1 =>
  some v1
noncomputable def laws_toExceptionS (v0 : List (Int × (Int × Int))) : Option (List (Int × (Int × Int))) :=
  let v1 : Int := ((v0).length : Int)
  (gmake 24 ((0, (0, 0)) : (Int × (Int × Int))) v1).bind fun v2 =>
  Pu.loop (fun (v3 : (Int × List (Int × (Int × Int)))) =>
    let v4 : Int := ((v0).length : Int)
    let v5 : Bool := decide (v3.1 < v4)
    bif v5 then (
      (gget (0, (0, 0)) v0 v3.1).bind fun v6 =>
      (laws_toException v6).bind fun v7 =>
      (gin (v3.2).length v3.1).bind fun _ =>
      (gget (0, (0, 0)) v3.2 v3.1).bind fun v9 =>
      let v10 : (Int × (Int × Int)) := v7
      let v11 : List (Int × (Int × Int)) := gset v3.2 v3.1 v10
      let v12 : Int := wrap .i64 (v3.1 + 1)
      some (.inl (v12, v11))) else
    Option.map Sum.inr (
      some v3.2)) (0, v2)
noncomputable def laws_eqExceptionS (v0 : (List (Int × (Int × Int)) × List (Int × (Int × Int)))) : Option Bool :=
  let v1 : Int := ((v0.1).length : Int)
  let v2 : Int := ((v0.2).length : Int)
  let v3 : Bool := decide (v1 ≠ v2)
  bif v3 then (
    some false) else
  Pu.loop (fun (v4 : Int) =>
    let v5 : Int := ((v0.1).length : Int)
    let v6 : Bool := decide (v4 < v5)
    bif v6 then (
      (gget (0, (0, 0)) v0.1 v4).bind fun v7 =>
      (gget (0, (0, 0)) v0.2 v4).bind fun v8 =>
      (laws_eqException (v7, v8)).bind fun v9 =>
      let v10 : Bool := !v9
      bif v10 then (
        Option.map Sum.inr (
          some false)) else
      let v11 : Int := wrap .i64 (v4 + 1)
      some (.inl v11)) else
    Option.map Sum.inr (
      some true)) 0
noncomputable def spec_TimingOk (v0 : (Int × List (Int × (Int × Int)))) : Option Bool :=
  (spec_l01In (v0.1, (0, 500))).bind fun v1 =>
  let v2 : Bool := !v1
  bif v2 then (
    some false) else
  let v3 : Int := ((v0.2).length : Int)
  let v4 : Bool := decide (2000 < v3)
  bif v4 then (
    some false) else
  Pu.loop (fun (v5 : Int) =>
    let v6 : Int := ((v0.2).length : Int)
    let v7 : Bool := decide (v5 < v6)
    bif v7 then (
      (gget (0, (0, 0)) v0.2 v5).bind fun v8 =>
      let v9 : Bool := decide (v8.1 < 0)
      bif v9 then (
        Option.map Sum.inr (
          some false)) else
      let v10 : Bool := decide (v8.2.1 ≤ v8.1)
      bif v10 then (
        Option.map Sum.inr (
          some false)) else
      let v11 : Bool := decide (v0.1 ≤ v8.2.1)
      bif v11 then (
        Option.map Sum.inr (
          some false)) else
      (spec_l01In (v8.2.2, (0, 100))).bind fun v12 =>
      let v13 : Bool := !v12
      bif v13 then (
        Option.map Sum.inr (
          some false)) else
      let v14 : Int := wrap .i64 (v5 + 1)
      some (.inl v14)) else
    Option.map Sum.inr (
      some true)) 0
noncomputable def laws_toArcS (v0 : List (Int × (Int × Int))) : Option (List (Int × (Int × Int))) :=
  let v1 : Int := ((v0).length : Int)
  (gmake 24 ((0, (0, 0)) : (Int × (Int × Int))) v1).bind fun v2 =>
  Pu.loop (fun (v3 : (Int × List (Int × (Int × Int)))) =>
    let v4 : Int := ((v0).length : Int)
    let v5 : Bool := decide (v3.1 < v4)
    bif v5 then (
      (gget (0, (0, 0)) v0 v3.1).bind fun v6 =>
      (laws_toArc v6).bind fun v7 =>
      (gin (v3.2).length v3.1).bind fun _ =>
      (gget (0, (0, 0)) v3.2 v3.1).bind fun v9 =>
      let v10 : (Int × (Int × Int)) := v7
      let v11 : List (Int × (Int × Int)) := gset v3.2 v3.1 v10
      let v12 : Int := wrap .i64 (v3.1 + 1)
      some (.inl (v12, v11))) else
    Option.map Sum.inr (
      some v3.2)) (0, v2)
noncomputable def laws_eqArcS (v0 : (List (Int × (Int × Int)) × List (Int × (Int × Int)))) : Option Bool :=
  let v1 : Int := ((v0.1).length : Int)
  let v2 : Int := ((v0.2).length : Int)
  let v3 : Bool := decide (v1 ≠ v2)
  bif v3 then (
    some false) else
  Pu.loop (fun (v4 : Int) =>
    let v5 : Int := ((v0.1).length : Int)
    let v6 : Bool := decide (v4 < v5)
    bif v6 then (
      (gget (0, (0, 0)) v0.1 v4).bind fun v7 =>
      (gget (0, (0, 0)) v0.2 v4).bind fun v8 =>
      (laws_eqArc (v7, v8)).bind fun v9 =>
      let v10 : Bool := !v9
      bif v10 then (
        Option.map Sum.inr (
          some false)) else
      let v11 : Int := wrap .i64 (v4 + 1)
      some (.inl v11)) else
    Option.map Sum.inr (
      some true)) 0
noncomputable def spec_l36Slacks (v0 : ((Int × List (Int × (Int × Int))) × (List (Int × Int) × (List (Int × Int) × (List (Int × (Int × Int)) × Int))))) : Option (List Int) :=
  Pu.loop (fun (v1 : (Int × List Int)) =>
    let v2 : Int := ((v0.2.2.1).length : Int)
    let v3 : Bool := decide (v1.1 < v2)
    bif v3 then (
      let v4 : List Int := [1000000]
      (gapp 8 v1.2 v4).bind fun v5 =>
      let v6 : Int := wrap .i64 (v1.1 + 1)
      some (.inl (v6, v5))) else
    Option.map Sum.inr (
      Pu.loop (fun (v4 : (Int × List Int)) =>
        let v5 : Int := ((v0.2.1).length : Int)
        let v6 : Bool := decide (v4.1 < v5)
        bif v6 then (
          (gget (0, 0) v0.2.1 v4.1).bind fun v7 =>
          let v8 : Bool := decide (v0.2.2.2.2 = 0)
          (spec_l36Delays (v0.1, (v7.1, v8))).bind fun v9 =>
          Pu.loop (fun (v10 : (Int × List Int)) =>
            let v11 : Int := ((v0.2.2.1).length : Int)
            let v12 : Bool := decide (v10.1 < v11)
            bif v12 then (
              (spec_l36Cycles (v0.2.2.2.1, (v4.1, v10.1))).bind fun v13 =>
              (gget (0, 0) v0.2.2.1 v10.1).bind fun v14 =>
              (gin (v9).length v14.1).bind fun _ =>
              (gget 0 v9 v14.1).bind fun v16 =>
              let v17 : Bool := decide (v16 < 0)
              bif v17 then (
                let v18 : Int := wrap .i64 (v10.1 + 1)
                some (.inl (v18, v10.2))) else
              let v18 : Bool := decide (v13 = 0)
              bif v18 then (
                let v19 : Int := wrap .i64 (v10.1 + 1)
                some (.inl (v19, v10.2))) else
              (gget (0, 0) v0.2.1 v4.1).bind fun v19 =>
              let v20 : Int := wrap .i64 (v19.2 + v16)
              (gget (0, 0) v0.2.2.1 v10.1).bind fun v21 =>
              let v22 : Int := wrap .i64 (v20 - v21.2)
              let v23 : Bool := decide (0 < v0.2.2.2.2)
              bif v23 then (
                let v24 : Int := wrap .i64 (v13 * v0.2.2.2.2)
                let v25 : Int := wrap .i64 (v24 - v22)
                (gin (v10.2).length v10.1).bind fun _ =>
                (gget 0 v10.2 v10.1).bind fun v27 =>
                let v28 : Int := if v25 < v27 then v25 else v27
                (gin (v10.2).length v10.1).bind fun _ =>
                (gget 0 v10.2 v10.1).bind fun v30 =>
                let v31 : Int := v28
                let v32 : List Int := gset v10.2 v10.1 v31
                let v33 : Int := wrap .i64 (v10.1 + 1)
                some (.inl (v33, v32))) else
              (gin (v10.2).length v10.1).bind fun _ =>
              (gget 0 v10.2 v10.1).bind fun v25 =>
              let v26 : Int := if v22 < v25 then v22 else v25
              (gin (v10.2).length v10.1).bind fun _ =>
              (gget 0 v10.2 v10.1).bind fun v28 =>
              let v29 : Int := v26
              let v30 : List Int := gset v10.2 v10.1 v29
              let v31 : Int := wrap .i64 (v10.1 + 1)
              some (.inl (v31, v30))) else
            Option.map Sum.inr (
              let v13 : Int := wrap .i64 (v4.1 + 1)
              some (.inl (v13, v10.2)))) (0, v4.2)) else
        Option.map Sum.inr (
          some v4.2)) (0, v1.2))) (0, ([] : List Int))
noncomputable def impl_exceptionsOk (v0 : List (Int × (Int × Int))) : Option Bool :=
  let v1 : Int := ((v0).length : Int)
  let v2 : Bool := decide (50 < v1)
  bif v2 then (
    some false) else
  let v3 : Int := ((v0).length : Int)
  Pu.loop (fun (v4 : Int) =>
    let v5 : Bool := decide (v4 < v3)
    bif v5 then (
      (gget (0, (0, 0)) v0 v4).bind fun v6 =>
      let v7 : Bool := decide (v6.1 < 0)
      bif v7 then (
        Option.map Sum.inr (
          some false)) else
      let v8 : Bool := decide (v6.2.1 < 0)
      bif v8 then (
        Option.map Sum.inr (
          some false)) else
      (impl_inRange (v6.2.2, (0, 8))).bind fun v9 =>
      let v10 : Bool := !v9
      bif v10 then (
        Option.map Sum.inr (
          some false)) else
      let v11 : Int := wrap .i64 (v4 + 1)
      some (.inl v11)) else
    Option.map Sum.inr (
      some true)) 0
noncomputable def impl_slacks_68064 (v0 : ((Int × List (Int × (Int × Int))) × (List (Int × Int) × (List (Int × Int) × (List (Int × (Int × Int)) × (Bool × Int)))))) : Option (List Int) :=
  (impl_arcsInto v0.1).bind fun v1 =>
  let v2 : Int := ((v0.2.2.1).length : Int)
  (gmake 8 (0 : Int) v2).bind fun v3 =>
  let v4 : Int := ((v3).length : Int)
  Pu.loop (fun (v5 : (Int × List Int)) =>
    let v6 : Bool := decide (v5.1 < v4)
    bif v6 then (
      (gin (v5.2).length v5.1).bind fun _ =>
      (gget 0 v5.2 v5.1).bind fun v8 =>
      let v9 : Int := 1000000
      let v10 : List Int := gset v5.2 v5.1 v9
      let v11 : Int := wrap .i64 (v5.1 + 1)
      some (.inl (v11, v10))) else
    Option.map Sum.inr (
      let v7 : Int := ((v0.2.2.1).length : Int)
      (gmake 1 (false : Bool) v7).bind fun v8 =>
      let v9 : Int := ((v0.2.1).length : Int)
      Pu.loop (fun (v10 : (Int × (List Int × List Bool))) =>
        let v11 : Bool := decide (v10.1 < v9)
        bif v11 then (
          (gget (0, 0) v0.2.1 v10.1).bind fun v12 =>
          (impl_delaysFrom (v1, (v12.1, v0.2.2.2.2.1))).bind fun v13 =>
          let v14 : Int := ((v0.2.2.1).length : Int)
          Pu.loop (fun (v15 : (Int × (List Int × List Bool))) =>
            let v16 : Bool := decide (v15.1 < v14)
            bif v16 then (
              (gget (0, 0) v0.2.2.1 v15.1).bind fun v17 =>
              (impl_cyclesOf (v0.2.2.2.1, (v10.1, v15.1))).bind fun v18 =>
              (gin (v13).length v17.1).bind fun _ =>
              (gget 0 v13 v17.1).bind fun v20 =>
              let v21 : Bool := decide (v20 < 0)
              bif v21 then (
                let v22 : Int := wrap .i64 (v15.1 + 1)
                some (.inl (v22, v15.2))) else
              let v22 : Bool := decide (v18 = 0)
              bif v22 then (
                let v23 : Int := wrap .i64 (v15.1 + 1)
                some (.inl (v23, v15.2))) else
              (gin (v13).length v17.1).bind fun _ =>
              (gget 0 v13 v17.1).bind fun v24 =>
              (impl_SetupSlacks_cl1 (v12, (v17, (v24, (v18, v0.2.2.2.2.2))))).bind fun v25 =>
              (gin (v15.2.2).length v15.1).bind fun _ =>
              (gget false v15.2.2 v15.1).bind fun v27 =>
              let v28 : Bool := !v27
              bif v28 then (
                (gin (v15.2.1).length v15.1).bind fun _ =>
                (gget 0 v15.2.1 v15.1).bind fun v30 =>
                let v31 : Int := v25
                let v32 : List Int := gset v15.2.1 v15.1 v31
                (gin (v15.2.2).length v15.1).bind fun _ =>
                (gget false v15.2.2 v15.1).bind fun v34 =>
                let v35 : Bool := true
                let v36 : List Bool := gset v15.2.2 v15.1 v35
                let v37 : Int := wrap .i64 (v15.1 + 1)
                some (.inl (v37, (v32, v36)))) else
              (gin (v15.2.1).length v15.1).bind fun _ =>
              (gget 0 v15.2.1 v15.1).bind fun v30 =>
              let v31 : Bool := decide (v25 < v30)
              bif v31 then (
                (gin (v15.2.1).length v15.1).bind fun _ =>
                (gget 0 v15.2.1 v15.1).bind fun v33 =>
                let v34 : Int := v25
                let v35 : List Int := gset v15.2.1 v15.1 v34
                (gin (v15.2.2).length v15.1).bind fun _ =>
                (gget false v15.2.2 v15.1).bind fun v37 =>
                let v38 : Bool := true
                let v39 : List Bool := gset v15.2.2 v15.1 v38
                let v40 : Int := wrap .i64 (v15.1 + 1)
                some (.inl (v40, (v35, v39)))) else
              (gin (v15.2.2).length v15.1).bind fun _ =>
              (gget false v15.2.2 v15.1).bind fun v33 =>
              let v34 : Bool := true
              let v35 : List Bool := gset v15.2.2 v15.1 v34
              let v36 : Int := wrap .i64 (v15.1 + 1)
              some (.inl (v36, (v15.2.1, v35)))) else
            Option.map Sum.inr (
              let v17 : Int := wrap .i64 (v10.1 + 1)
              some (.inl (v17, v15.2)))) (0, v10.2)) else
        Option.map Sum.inr (
          some v10.2.1)) (0, (v5.2, v8)))) (0, v3)
noncomputable def impl_LongestDelays (v0 : ((Int × List (Int × (Int × Int))) × Int)) : Option (List Int) :=
  (impl_TimingOk v0.1).bind fun v1 =>
  let v2 : Bool := !v1
  bif v2 then (
    some ([] : List Int)) else
  let v3 : Int := wrap .i64 (v0.1.1 - 1)
  (impl_inRange (v0.2, (0, v3))).bind fun v4 =>
  let v5 : Bool := !v4
  bif v5 then (
    some ([] : List Int)) else
  (impl_arcsInto v0.1).bind fun v6 =>
  (impl_delaysFrom (v6, (v0.2, true))).bind fun v7 =>
  some v7
noncomputable def impl_ShortestDelays (v0 : ((Int × List (Int × (Int × Int))) × Int)) : Option (List Int) :=
  (impl_TimingOk v0.1).bind fun v1 =>
  let v2 : Bool := !v1
  bif v2 then (
    some ([] : List Int)) else
  let v3 : Int := wrap .i64 (v0.1.1 - 1)
  (impl_inRange (v0.2, (0, v3))).bind fun v4 =>
  let v5 : Bool := !v4
  bif v5 then (
    some ([] : List Int)) else
  (impl_arcsInto v0.1).bind fun v6 =>
  (impl_delaysFrom (v6, (v0.2, false))).bind fun v7 =>
  some v7
noncomputable def impl_PointsOk (v0 : ((Int × List (Int × (Int × Int))) × List (Int × Int))) : Option Bool :=
  (impl_TimingOk v0.1).bind fun v1 =>
  let v2 : Bool := !v1
  bif v2 then (
    some false) else
  let v3 : Int := ((v0.2).length : Int)
  let v4 : Bool := decide (100 < v3)
  bif v4 then (
    some false) else
  let v5 : Int := ((v0.2).length : Int)
  Pu.loop (fun (v6 : Int) =>
    let v7 : Bool := decide (v6 < v5)
    bif v7 then (
      (gget (0, 0) v0.2 v6).bind fun v8 =>
      let v9 : Int := wrap .i64 (v0.1.1 - 1)
      (impl_inRange (v8.1, (0, v9))).bind fun v10 =>
      let v11 : Bool := !v10
      bif v11 then (
        Option.map Sum.inr (
          some false)) else
      (impl_inRange (v8.2, (0, 50))).bind fun v12 =>
      let v13 : Bool := !v12
      bif v13 then (
        Option.map Sum.inr (
          some false)) else
      let v14 : Int := wrap .i64 (v6 + 1)
      some (.inl v14)) else
    Option.map Sum.inr (
      some true)) 0
noncomputable def laws_toTimingGraph (v0 : (Int × List (Int × (Int × Int)))) : Option (Int × List (Int × (Int × Int))) :=
  (laws_toArcS v0.2).bind fun v1 =>
  some (v0.1, v1)
noncomputable def laws_eqTimingGraph (v0 : ((Int × List (Int × (Int × Int))) × (Int × List (Int × (Int × Int))))) : Option Bool :=
  let v1 : Bool := decide (v0.1.1 ≠ v0.2.1)
  bif v1 then (
    some false) else
  (laws_eqArcS (v0.1.2, v0.2.2)).bind fun v2 =>
  let v3 : Bool := !v2
  bif v3 then (
    some false) else
  some true
noncomputable def spec_PointsOk (v0 : ((Int × List (Int × (Int × Int))) × List (Int × Int))) : Option Bool :=
  (spec_TimingOk v0.1).bind fun v1 =>
  let v2 : Bool := !v1
  bif v2 then (
    some false) else
  let v3 : Int := ((v0.2).length : Int)
  let v4 : Bool := decide (100 < v3)
  bif v4 then (
    some false) else
  Pu.loop (fun (v5 : Int) =>
    let v6 : Int := ((v0.2).length : Int)
    let v7 : Bool := decide (v5 < v6)
    bif v7 then (
      (gget (0, 0) v0.2 v5).bind fun v8 =>
      let v9 : Bool := decide (v8.1 < 0)
      bif v9 then (
        Option.map Sum.inr (
          some false)) else
      (gget (0, 0) v0.2 v5).bind fun v10 =>
      let v11 : Bool := decide (v0.1.1 ≤ v10.1)
      bif v11 then (
        Option.map Sum.inr (
          some false)) else
      (gget (0, 0) v0.2 v5).bind fun v12 =>
      (spec_l01In (v12.2, (0, 50))).bind fun v13 =>
      let v14 : Bool := !v13
      bif v14 then (
        Option.map Sum.inr (
          some false)) else
      let v15 : Int := wrap .i64 (v5 + 1)
      some (.inl v15)) else
    Option.map Sum.inr (
      some true)) 0
noncomputable def spec_l36Node (v0 : ((Int × List (Int × (Int × Int))) × Int)) : Option Bool :=
  (spec_TimingOk v0.1).bind fun v1 =>
  bif v1 then (
    let v2 : Bool := decide (0 ≤ v0.2)
    bif v2 then (
      let v3 : Bool := decide (v0.2 < v0.1.1)
      some v3) else
    some false) else
  some false
noncomputable def spec_LongestDelays (v0 : ((Int × List (Int × (Int × Int))) × Int)) : Option (List Int) :=
  (spec_l36Node v0).bind fun v1 =>
  let v2 : Bool := !v1
  bif v2 then (
    some ([] : List Int)) else
  (spec_l36Delays (v0.1, (v0.2, false))).bind fun v3 =>
  some v3
noncomputable def spec_ShortestDelays (v0 : ((Int × List (Int × (Int × Int))) × Int)) : Option (List Int) :=
  (spec_l36Node v0).bind fun v1 =>
  let v2 : Bool := !v1
  bif v2 then (
    some ([] : List Int)) else
  (spec_l36Delays (v0.1, (v0.2, true))).bind fun v3 =>
  some v3
noncomputable def impl_SetupSlacks (v0 : ((Int × List (Int × (Int × Int))) × (List (Int × Int) × (List (Int × Int) × (List (Int × (Int × Int)) × Int))))) : Option (List Int) :=
  (impl_PointsOk (v0.1, v0.2.1)).bind fun v1 =>
  let v2 : Bool := !v1
  bif v2 then (
    some ([] : List Int)) else
  (impl_PointsOk (v0.1, v0.2.2.1)).bind fun v3 =>
  let v4 : Bool := !v3
  bif v4 then (
    some ([] : List Int)) else
  (impl_exceptionsOk v0.2.2.2.1).bind fun v5 =>
  let v6 : Bool := !v5
  bif v6 then (
    some ([] : List Int)) else
  (impl_inRange (v0.2.2.2.2, (1, 1000))).bind fun v7 =>
  let v8 : Bool := !v7
  bif v8 then (
    some ([] : List Int)) else
  (impl_slacks_68064 (v0.1, (v0.2.1, (v0.2.2.1, (v0.2.2.2.1, (true, v0.2.2.2.2)))))).bind fun v9 =>
  some v9
noncomputable def spec_l36Valid (v0 : ((Int × List (Int × (Int × Int))) × (List (Int × Int) × (List (Int × Int) × List (Int × (Int × Int)))))) : Option Bool :=
  (spec_PointsOk (v0.1, v0.2.1)).bind fun v1 =>
  let v2 : Bool := !v1
  bif v2 then (
    some false) else
  (spec_PointsOk (v0.1, v0.2.2.1)).bind fun v3 =>
  let v4 : Bool := !v3
  bif v4 then (
    some false) else
  let v5 : Int := ((v0.2.2.2).length : Int)
  let v6 : Bool := decide (50 < v5)
  bif v6 then (
    some false) else
  Pu.loop (fun (v7 : Int) =>
    let v8 : Int := ((v0.2.2.2).length : Int)
    let v9 : Bool := decide (v7 < v8)
    bif v9 then (
      (gget (0, (0, 0)) v0.2.2.2 v7).bind fun v10 =>
      let v11 : Bool := decide (v10.1 < 0)
      bif v11 then (
        Option.map Sum.inr (
          some false)) else
      (gget (0, (0, 0)) v0.2.2.2 v7).bind fun v12 =>
      let v13 : Bool := decide (v12.2.1 < 0)
      bif v13 then (
        Option.map Sum.inr (
          some false)) else
      (gget (0, (0, 0)) v0.2.2.2 v7).bind fun v14 =>
      (spec_l01In (v14.2.2, (0, 8))).bind fun v15 =>
      let v16 : Bool := !v15
      bif v16 then (
        Option.map Sum.inr (
          some false)) else
      let v17 : Int := wrap .i64 (v7 + 1)
      some (.inl v17)) else
    Option.map Sum.inr (
      some true)) 0
noncomputable def spec_SetupSlacks (v0 : ((Int × List (Int × (Int × Int))) × (List (Int × Int) × (List (Int × Int) × (List (Int × (Int × Int)) × Int))))) : Option (List Int) :=
  (spec_l36Valid (v0.1, (v0.2.1, (v0.2.2.1, v0.2.2.2.1)))).bind fun v1 =>
  let v2 : Bool := !v1
  bif v2 then (
    some ([] : List Int)) else
  (spec_l01In (v0.2.2.2.2, (1, 1000))).bind fun v3 =>
  let v4 : Bool := !v3
  bif v4 then (
    some ([] : List Int)) else
  (spec_l36Slacks v0).bind fun v5 =>
  some v5
noncomputable def laws_FnExactSetupSlacks (v0 : ((Int × List (Int × (Int × Int))) × (List (Int × Int) × (List (Int × Int) × (List (Int × (Int × Int)) × Int))))) : Option Bool :=
  (laws_szTimingGraph (v0.1, 1048576)).bind fun v1 =>
  let v2 : Bool := decide (v1 < 0)
  bif v2 then (
    some true) else
  (laws_szPointS (v0.2.1, v1)).bind fun v3 =>
  let v4 : Bool := decide (v3 < 0)
  bif v4 then (
    some true) else
  (laws_szPointS (v0.2.2.1, v3)).bind fun v5 =>
  let v6 : Bool := decide (v5 < 0)
  bif v6 then (
    some true) else
  (laws_szExceptionS (v0.2.2.2.1, v5)).bind fun v7 =>
  let v8 : Bool := decide (v7 < 0)
  bif v8 then (
    some true) else
  (laws_toTimingGraph v0.1).bind fun v9 =>
  (laws_toPointS v0.2.1).bind fun v10 =>
  (laws_toPointS v0.2.2.1).bind fun v11 =>
  (laws_toExceptionS v0.2.2.2.1).bind fun v12 =>
  (spec_SetupSlacks (v9, (v10, (v11, (v12, v0.2.2.2.2))))).bind fun v13 =>
  (laws_toTimingGraph v0.1).bind fun v14 =>
  (laws_toPointS v0.2.1).bind fun v15 =>
  (laws_toPointS v0.2.2.1).bind fun v16 =>
  (laws_toExceptionS v0.2.2.2.1).bind fun v17 =>
  (impl_SetupSlacks (v14, (v15, (v16, (v17, v0.2.2.2.2))))).bind fun v18 =>
  (laws_eqIntS (v18, v13)).bind fun v19 =>
  let v20 : Bool := !v19
  bif v20 then (
    some false) else
  (laws_toTimingGraph v0.1).bind fun v21 =>
  (laws_eqTimingGraph (v14, v21)).bind fun v22 =>
  let v23 : Bool := !v22
  bif v23 then (
    some false) else
  (laws_toPointS v0.2.1).bind fun v24 =>
  (laws_eqPointS (v15, v24)).bind fun v25 =>
  let v26 : Bool := !v25
  bif v26 then (
    some false) else
  (laws_toPointS v0.2.2.1).bind fun v27 =>
  (laws_eqPointS (v16, v27)).bind fun v28 =>
  let v29 : Bool := !v28
  bif v29 then (
    some false) else
  (laws_toExceptionS v0.2.2.2.1).bind fun v30 =>
  (laws_eqExceptionS (v17, v30)).bind fun v31 =>
  let v32 : Bool := !v31
  bif v32 then (
    some false) else
  (laws_markTimingGraph (v14, 1)).bind fun v33 =>
  (laws_markPointS (v15, v33.1)).bind fun v34 =>
  (laws_markPointS (v16, v34.1)).bind fun v35 =>
  (laws_markExceptionS (v17, v35.1)).bind fun v36 =>
  let v37 : Bool := decide (v36.1 < 0)
  bif v37 then (
    some false) else
  (laws_eqIntS (v18, v13)).bind fun v38 =>
  let v39 : Bool := !v38
  bif v39 then (
    some false) else
  (laws_markIntS (v18, 1)).bind fun v40 =>
  (laws_heldIntS (v40.2, 1)).bind fun v41 =>
  let v42 : Bool := decide (v41 < 0)
  bif v42 then (
    some false) else
  let v43 : Bool := decide (v41 ≠ v40.1)
  bif v43 then (
    some false) else
  (laws_toTimingGraph v0.1).bind fun v44 =>
  (laws_toPointS v0.2.1).bind fun v45 =>
  (laws_toPointS v0.2.2.1).bind fun v46 =>
  (laws_toExceptionS v0.2.2.2.1).bind fun v47 =>
  (impl_SetupSlacks (v44, (v45, (v46, (v47, v0.2.2.2.2))))).bind fun v48 =>
  (laws_eqIntS (v48, v13)).bind fun v49 =>
  let v50 : Bool := !v49
  bif v50 then (
    some false) else
  (laws_heldIntS (v40.2, 1)).bind fun v51 =>
  let v52 : Bool := decide (v51 < 0)
  bif v52 then (
    some false) else
  let v53 : Bool := decide (v51 ≠ v40.1)
  bif v53 then (
    some false) else
  some true
noncomputable def spec_l27Per (v0 : (Int × (Int × (Int × Int)))) : Option Int :=
  let v1 : Int := wrap .i64 (4 * v0.2.2.1)
  let v2 : Int := wrap .i64 (7 + v1)
  some v2
noncomputable def spec_InPins (v0 : Int) : Option Int :=
  let v1 : Bool := decide (v0 = 0)
  bif v1 then (
    some 1) else
  let v2 : Bool := decide (v0 = 1)
  bif v2 then (
    some 5) else
  let v3 : Bool := decide (v0 = 2)
  bif v3 then (
    some 4) else
  some 0
noncomputable def spec_OutPins (v0 : Int) : Option Int :=
  let v1 : Bool := decide (v0 = 0)
  bif v1 then (
    bif v1 then (
      some 1) else
    let v2 : Bool := decide (v0 = 1)
    bif v2 then (
      some 2) else
    some 0) else
  let v2 : Bool := decide (v0 = 2)
  bif v2 then (
    some 1) else
  let v3 : Bool := decide (v0 = 1)
  bif v3 then (
    some 2) else
  some 0
noncomputable def impl_InPins (v0 : Int) : Option Int :=
  let v1 : Bool := decide (v0 = 0)
  bif v1 then (
    some 1) else
  let v2 : Bool := decide (v0 = 1)
  bif v2 then (
    some 5) else
  let v3 : Bool := decide (v0 = 2)
  bif v3 then (
    some 4) else
  some 0
noncomputable def impl_OutPins (v0 : Int) : Option Int :=
  let v1 : Bool := decide (v0 = 0)
  bif v1 then (
    bif v1 then (
      some 1) else
    let v2 : Bool := decide (v0 = 1)
    bif v2 then (
      some 2) else
    some 0) else
  let v2 : Bool := decide (v0 = 2)
  bif v2 then (
    some 1) else
  let v3 : Bool := decide (v0 = 1)
  bif v3 then (
    some 2) else
  some 0
noncomputable def impl_wireLength (v0 : Int) : Option Int :=
  (grem v0 2).bind fun v1 =>
  let v2 : Int := wrap .i64 (1 + v1)
  some v2
noncomputable def impl_perTile (v0 : (Int × (Int × (Int × Int)))) : Option Int :=
  let v1 : Int := wrap .i64 (4 * v0.2.2.1)
  let v2 : Int := wrap .i64 (7 + v1)
  some v2
noncomputable def laws_markConn (v0 : ((Int × ((Int × Int) × List (Int × Int))) × Int)) : Option (Int × List (Int × Int)) :=
  (laws_markPinS (v0.1.2.2, v0.2)).bind fun v1 =>
  some v1
noncomputable def spec_l27Wire (v0 : ((Int × (Int × (Int × Int))) × Int)) : Option (Int × Int) :=
  (spec_l27Per v0.1).bind fun v1 =>
  (grem v0.2 v1).bind fun v2 =>
  let v3 : Int := wrap .i64 (v2 - 7)
  (gdiv .i64 v3 v0.1.2.2.1).bind fun v4 =>
  (grem v3 v0.1.2.2.1).bind fun v5 =>
  some (v4, v5)
noncomputable def impl_routeNodes (v0 : (Int × (Int × (Int × Int)))) : Option Int :=
  let v1 : Int := wrap .i64 (v0.1 * v0.2.1)
  (impl_perTile v0).bind fun v2 =>
  let v3 : Int := wrap .i64 (v1 * v2)
  some v3
noncomputable def impl_nodePlace (v0 : ((Int × (Int × (Int × Int))) × Int)) : Option (Int × Int) :=
  (impl_perTile v0.1).bind fun v1 =>
  (gdiv .i64 v0.2 v1).bind fun v2 =>
  (impl_perTile v0.1).bind fun v3 =>
  (grem v0.2 v3).bind fun v4 =>
  some (v2, v4)
noncomputable def impl_tileStep (v0 : ((Int × (Int × (Int × Int))) × (Int × (Int × Int)))) : Option Int :=
  (grem v0.2.1 v0.1.1).bind fun v1 =>
  (gdiv .i64 v0.2.1 v0.1.1).bind fun v2 =>
  joinO (
    let v3 : Bool := decide (v0.2.2.1 = 0)
    bif v3 then (
      let v4 : Int := wrap .i64 (v1 + v0.2.2.2)
      some (.inl (v4, v2))) else
    let v4 : Bool := decide (v0.2.2.1 = 1)
    bif v4 then (
      let v5 : Int := wrap .i64 (v2 + v0.2.2.2)
      some (.inl (v1, v5))) else
    let v5 : Bool := decide (v0.2.2.1 = 2)
    bif v5 then (
      let v6 : Int := wrap .i64 (v1 - v0.2.2.2)
      some (.inl (v6, v2))) else
    let v6 : Int := wrap .i64 (v2 - v0.2.2.2)
    some (.inl (v1, v6))) (fun (v3 : (Int × Int)) =>
    let v4 : Int := wrap .i64 (v0.1.1 - 1)
    (impl_inRange (v3.1, (0, v4))).bind fun v5 =>
    let v6 : Bool := !v5
    bif v6 then (
      some (-1)) else
    let v7 : Int := wrap .i64 (v0.1.2.1 - 1)
    (impl_inRange (v3.2, (0, v7))).bind fun v8 =>
    let v9 : Bool := !v8
    bif v9 then (
      some (-1)) else
    let v10 : Int := wrap .i64 (v3.2 * v0.1.1)
    let v11 : Int := wrap .i64 (v10 + v3.1)
    some v11)
noncomputable def spec_RouteNodes (v0 : (Int × (Int × (Int × Int)))) : Option Int :=
  (spec_DeviceOk v0).bind fun v1 =>
  let v2 : Bool := !v1
  bif v2 then (
    some 0) else
  let v3 : Int := wrap .i64 (v0.1 * v0.2.1)
  (spec_l27Per v0).bind fun v4 =>
  let v5 : Int := wrap .i64 (v3 * v4)
  some v5
noncomputable def impl_wireOf (v0 : ((Int × (Int × (Int × Int))) × Int)) : Option (Int × (Int × (Int × Bool))) :=
  (impl_nodePlace v0).bind fun v1 =>
  let v2 : Int := wrap .i64 (v1.2 - 7)
  (gdiv .i64 v2 v0.1.2.2.1).bind fun v3 =>
  let v4 : Int := wrap .i64 (v1.2 - 7)
  (grem v4 v0.1.2.2.1).bind fun v5 =>
  let v6 : Bool := decide (7 ≤ v1.2)
  some (v1.1, (v3, (v5, v6)))
noncomputable def impl_RouteNodeOk (v0 : ((Int × (Int × (Int × Int))) × Int)) : Option Bool :=
  (impl_DeviceOk v0.1).bind fun v1 =>
  let v2 : Bool := !v1
  bif v2 then (
    some false) else
  (impl_routeNodes v0.1).bind fun v3 =>
  let v4 : Int := wrap .i64 (v3 - 1)
  (impl_inRange (v0.2, (0, v4))).bind fun v5 =>
  let v6 : Bool := !v5
  bif v6 then (
    some false) else
  (impl_nodePlace v0).bind fun v7 =>
  let v8 : Bool := decide (v7.2 < 5)
  bif v8 then (
    (impl_tileKind (v0.1, v7.1)).bind fun v9 =>
    (impl_InPins v9).bind fun v10 =>
    let v11 : Bool := decide (v7.2 < v10)
    some v11) else
  let v9 : Bool := decide (v7.2 < 7)
  bif v9 then (
    let v10 : Int := wrap .i64 (v7.2 - 5)
    (impl_tileKind (v0.1, v7.1)).bind fun v11 =>
    (impl_OutPins v11).bind fun v12 =>
    let v13 : Bool := decide (v10 < v12)
    some v13) else
  (impl_wireOf v0).bind fun v10 =>
  (impl_wireLength v10.2.2.1).bind fun v11 =>
  (impl_tileStep (v0.1, (v7.1, (v10.2.1, v11)))).bind fun v12 =>
  let v13 : Bool := decide (0 ≤ v12)
  some v13
noncomputable def spec_TileStep (v0 : ((Int × (Int × (Int × Int))) × (Int × (Int × Int)))) : Option Int :=
  (spec_TileKind (v0.1, v0.2.1)).bind fun v1 =>
  let v2 : Bool := decide (v1 < 0)
  bif v2 then (
    some (-1)) else
  (spec_l01In (v0.2.2.1, (0, 3))).bind fun v3 =>
  let v4 : Bool := !v3
  bif v4 then (
    some (-1)) else
  (spec_l01In (v0.2.2.2, (0, 6))).bind fun v5 =>
  let v6 : Bool := !v5
  bif v6 then (
    some (-1)) else
  (grem v0.2.1 v0.1.1).bind fun v7 =>
  let v8 : List Int := [1, 0, (-1), 0]
  (gin (v8).length v0.2.2.1).bind fun _ =>
  (gget 0 v8 v0.2.2.1).bind fun v10 =>
  let v11 : Int := wrap .i64 (v10 * v0.2.2.2)
  let v12 : Int := wrap .i64 (v7 + v11)
  (gdiv .i64 v0.2.1 v0.1.1).bind fun v13 =>
  let v14 : List Int := [0, 1, 0, (-1)]
  (gin (v14).length v0.2.2.1).bind fun _ =>
  (gget 0 v14 v0.2.2.1).bind fun v16 =>
  let v17 : Int := wrap .i64 (v16 * v0.2.2.2)
  let v18 : Int := wrap .i64 (v13 + v17)
  let v19 : Int := wrap .i64 (v0.1.1 - 1)
  (spec_l01In (v12, (0, v19))).bind fun v20 =>
  let v21 : Bool := !v20
  bif v21 then (
    some (-1)) else
  let v22 : Int := wrap .i64 (v0.1.2.1 - 1)
  (spec_l01In (v18, (0, v22))).bind fun v23 =>
  let v24 : Bool := !v23
  bif v24 then (
    some (-1)) else
  let v25 : Int := wrap .i64 (v18 * v0.1.1)
  let v26 : Int := wrap .i64 (v25 + v12)
  some v26
noncomputable def spec_OutPin (v0 : ((Int × (Int × (Int × Int))) × (Int × Int))) : Option Int :=
  let v1 : Bool := decide (v0.2.2 < 0)
  bif v1 then (
    some (-1)) else
  (spec_TileKind (v0.1, v0.2.1)).bind fun v2 =>
  (spec_OutPins v2).bind fun v3 =>
  let v4 : Bool := decide (v3 ≤ v0.2.2)
  bif v4 then (
    some (-1)) else
  (spec_l27Per v0.1).bind fun v5 =>
  let v6 : Int := wrap .i64 (v0.2.1 * v5)
  let v7 : Int := wrap .i64 (v6 + 5)
  let v8 : Int := wrap .i64 (v7 + v0.2.2)
  some v8
noncomputable def impl_OutPin (v0 : ((Int × (Int × (Int × Int))) × (Int × Int))) : Option Int :=
  (impl_tileOk (v0.1, v0.2.1)).bind fun v1 =>
  let v2 : Bool := !v1
  bif v2 then (
    some (-1)) else
  (impl_tileKind (v0.1, v0.2.1)).bind fun v3 =>
  (impl_OutPins v3).bind fun v4 =>
  let v5 : Int := wrap .i64 (v4 - 1)
  (impl_inRange (v0.2.2, (0, v5))).bind fun v6 =>
  let v7 : Bool := !v6
  bif v7 then (
    some (-1)) else
  (impl_perTile v0.1).bind fun v8 =>
  let v9 : Int := wrap .i64 (v0.2.1 * v8)
  let v10 : Int := wrap .i64 (v9 + 5)
  let v11 : Int := wrap .i64 (v10 + v0.2.2)
  some v11
noncomputable def spec_InPin (v0 : ((Int × (Int × (Int × Int))) × (Int × Int))) : Option Int :=
  let v1 : Bool := decide (v0.2.2 < 0)
  bif v1 then (
    some (-1)) else
  (spec_TileKind (v0.1, v0.2.1)).bind fun v2 =>
  (spec_InPins v2).bind fun v3 =>
  let v4 : Bool := decide (v3 ≤ v0.2.2)
  bif v4 then (
    some (-1)) else
  (spec_l27Per v0.1).bind fun v5 =>
  let v6 : Int := wrap .i64 (v0.2.1 * v5)
  let v7 : Int := wrap .i64 (v6 + v0.2.2)
  some v7
noncomputable def impl_InPin (v0 : ((Int × (Int × (Int × Int))) × (Int × Int))) : Option Int :=
  (impl_tileOk (v0.1, v0.2.1)).bind fun v1 =>
  let v2 : Bool := !v1
  bif v2 then (
    some (-1)) else
  (impl_tileKind (v0.1, v0.2.1)).bind fun v3 =>
  (impl_InPins v3).bind fun v4 =>
  let v5 : Int := wrap .i64 (v4 - 1)
  (impl_inRange (v0.2.2, (0, v5))).bind fun v6 =>
  let v7 : Bool := !v6
  bif v7 then (
    some (-1)) else
  (impl_perTile v0.1).bind fun v8 =>
  let v9 : Int := wrap .i64 (v0.2.1 * v8)
  let v10 : Int := wrap .i64 (v9 + v0.2.2)
  some v10
noncomputable def spec_RouteNodeOk (v0 : ((Int × (Int × (Int × Int))) × Int)) : Option Bool :=
  let v1 : Bool := decide (v0.2 < 0)
  bif v1 then (
    some false) else
  (spec_RouteNodes v0.1).bind fun v2 =>
  let v3 : Bool := decide (v2 ≤ v0.2)
  bif v3 then (
    some false) else
  (spec_l27Per v0.1).bind fun v4 =>
  (gdiv .i64 v0.2 v4).bind fun v5 =>
  (spec_l27Per v0.1).bind fun v6 =>
  (grem v0.2 v6).bind fun v7 =>
  let v8 : Bool := decide (v7 < 5)
  bif v8 then (
    (spec_TileKind (v0.1, v5)).bind fun v9 =>
    (spec_InPins v9).bind fun v10 =>
    let v11 : Bool := decide (v7 < v10)
    some v11) else
  let v9 : Bool := decide (v7 < 7)
  bif v9 then (
    let v10 : Int := wrap .i64 (v7 - 5)
    (spec_TileKind (v0.1, v5)).bind fun v11 =>
    (spec_OutPins v11).bind fun v12 =>
    let v13 : Bool := decide (v10 < v12)
    some v13) else
  (spec_l27Wire v0).bind fun v10 =>
  (grem v10.2 2).bind fun v11 =>
  let v12 : Int := wrap .i64 (1 + v11)
  (spec_TileStep (v0.1, (v5, (v10.1, v12)))).bind fun v13 =>
  let v14 : Bool := decide (0 ≤ v13)
  some v14
noncomputable def impl_IsWire (v0 : ((Int × (Int × (Int × Int))) × Int)) : Option Bool :=
  (impl_RouteNodeOk v0).bind fun v1 =>
  let v2 : Bool := !v1
  bif v2 then (
    some false) else
  (impl_wireOf v0).bind fun v3 =>
  some v3.2.2.2
noncomputable def spec_SourceNode (v0 : ((Int × (Int × (Int × Int))) × (List Int × (Int × ((Int × Int) × List (Int × Int)))))) : Option Int :=
  let v1 : Bool := decide (v0.2.2.2.1.1 < 0)
  bif v1 then (
    some (-1)) else
  let v2 : Int := ((v0.2.1).length : Int)
  let v3 : Bool := decide (v2 ≤ v0.2.2.2.1.1)
  bif v3 then (
    some (-1)) else
  (gget 0 v0.2.1 v0.2.2.2.1.1).bind fun v4 =>
  (spec_OutPin (v0.1, (v4, v0.2.2.2.1.2))).bind fun v5 =>
  some v5
noncomputable def impl_SourceNode (v0 : ((Int × (Int × (Int × Int))) × (List Int × (Int × ((Int × Int) × List (Int × Int)))))) : Option Int :=
  let v1 : Int := ((v0.2.1).length : Int)
  let v2 : Int := wrap .i64 (v1 - 1)
  (impl_inRange (v0.2.2.2.1.1, (0, v2))).bind fun v3 =>
  let v4 : Bool := !v3
  bif v4 then (
    some (-1)) else
  (gget 0 v0.2.1 v0.2.2.2.1.1).bind fun v5 =>
  (impl_OutPin (v0.1, (v5, v0.2.2.2.1.2))).bind fun v6 =>
  some v6
noncomputable def spec_SinkNodes (v0 : ((Int × (Int × (Int × Int))) × (List Int × (Int × ((Int × Int) × List (Int × Int)))))) : Option (List Int) :=
  Pu.loop (fun (v1 : (Int × List Int)) =>
    let v2 : Int := ((v0.2.2.2.2).length : Int)
    let v3 : Bool := decide (v1.1 < v2)
    bif v3 then (
      (gget (0, 0) v0.2.2.2.2 v1.1).bind fun v4 =>
      let v5 : Bool := decide (v4.1 < 0)
      bif v5 then (
        Option.map Sum.inr (
          some ([] : List Int))) else
      let v6 : Int := ((v0.2.1).length : Int)
      let v7 : Bool := decide (v6 ≤ v4.1)
      bif v7 then (
        Option.map Sum.inr (
          some ([] : List Int))) else
      (gget 0 v0.2.1 v4.1).bind fun v8 =>
      (gget (0, 0) v0.2.2.2.2 v1.1).bind fun v9 =>
      (spec_InPin (v0.1, (v8, v9.2))).bind fun v10 =>
      let v11 : Bool := decide (v10 < 0)
      bif v11 then (
        Option.map Sum.inr (
          some ([] : List Int))) else
      let v12 : List Int := [v10]
      (gapp 8 v1.2 v12).bind fun v13 =>
      let v14 : Int := wrap .i64 (v1.1 + 1)
      some (.inl (v14, v13))) else
    Option.map Sum.inr (
      some v1.2)) (0, ([] : List Int))
noncomputable def impl_SinkNodes (v0 : ((Int × (Int × (Int × Int))) × (List Int × (Int × ((Int × Int) × List (Int × Int)))))) : Option (List Int) :=
  let v1 : Int := ((v0.2.2.2.2).length : Int)
  Pu.loop (fun (v2 : (List Int × Int)) =>
    let v3 : Bool := decide (v2.2 < v1)
    bif v3 then (
      (gget (0, 0) v0.2.2.2.2 v2.2).bind fun v4 =>
      let v5 : Int := ((v0.2.1).length : Int)
      let v6 : Int := wrap .i64 (v5 - 1)
      (impl_inRange (v4.1, (0, v6))).bind fun v7 =>
      let v8 : Bool := !v7
      bif v8 then (
        Option.map Sum.inr (
          some ([] : List Int))) else
      (gget 0 v0.2.1 v4.1).bind fun v9 =>
      (impl_InPin (v0.1, (v9, v4.2))).bind fun v10 =>
      let v11 : Bool := decide (v10 < 0)
      bif v11 then (
        Option.map Sum.inr (
          some ([] : List Int))) else
      let v12 : List Int := [v10]
      (gapp 8 v2.1 v12).bind fun v13 =>
      let v14 : Int := wrap .i64 (v2.2 + 1)
      some (.inl (v13, v14))) else
    Option.map Sum.inr (
      some v2.1)) (([] : List Int), 0)
noncomputable def spec_IsWire (v0 : ((Int × (Int × (Int × Int))) × Int)) : Option Bool :=
  (spec_RouteNodeOk v0).bind fun v1 =>
  bif v1 then (
    (spec_l27Per v0.1).bind fun v2 =>
    (grem v0.2 v2).bind fun v3 =>
    let v4 : Bool := decide (7 ≤ v3)
    some v4) else
  some false
noncomputable def impl_HoldSlacks_cl1 (v0 : ((Int × Int) × ((Int × Int) × (Int × Int)))) : Option Int :=
  let v1 : Int := wrap .i64 (v0.1.2 + v0.2.2.1)
  let v2 : Int := wrap .i64 (v1 - v0.2.1.2)
  some v2
noncomputable def impl_slacks_66064 (v0 : ((Int × List (Int × (Int × Int))) × (List (Int × Int) × (List (Int × Int) × (List (Int × (Int × Int)) × (Bool × Unit)))))) : Option (List Int) :=
  (impl_arcsInto v0.1).bind fun v1 =>
  let v2 : Int := ((v0.2.2.1).length : Int)
  (gmake 8 (0 : Int) v2).bind fun v3 =>
  let v4 : Int := ((v3).length : Int)
  Pu.loop (fun (v5 : (Int × List Int)) =>
    let v6 : Bool := decide (v5.1 < v4)
    bif v6 then (
      (gin (v5.2).length v5.1).bind fun _ =>
      (gget 0 v5.2 v5.1).bind fun v8 =>
      let v9 : Int := 1000000
      let v10 : List Int := gset v5.2 v5.1 v9
      let v11 : Int := wrap .i64 (v5.1 + 1)
      some (.inl (v11, v10))) else
    Option.map Sum.inr (
      let v7 : Int := ((v0.2.2.1).length : Int)
      (gmake 1 (false : Bool) v7).bind fun v8 =>
      let v9 : Int := ((v0.2.1).length : Int)
      Pu.loop (fun (v10 : (Int × (List Int × List Bool))) =>
        let v11 : Bool := decide (v10.1 < v9)
        bif v11 then (
          (gget (0, 0) v0.2.1 v10.1).bind fun v12 =>
          (impl_delaysFrom (v1, (v12.1, v0.2.2.2.2.1))).bind fun v13 =>
          let v14 : Int := ((v0.2.2.1).length : Int)
          Pu.loop (fun (v15 : (Int × (List Int × List Bool))) =>
            let v16 : Bool := decide (v15.1 < v14)
            bif v16 then (
              (gget (0, 0) v0.2.2.1 v15.1).bind fun v17 =>
              (impl_cyclesOf (v0.2.2.2.1, (v10.1, v15.1))).bind fun v18 =>
              (gin (v13).length v17.1).bind fun _ =>
              (gget 0 v13 v17.1).bind fun v20 =>
              let v21 : Bool := decide (v20 < 0)
              bif v21 then (
                let v22 : Int := wrap .i64 (v15.1 + 1)
                some (.inl (v22, v15.2))) else
              let v22 : Bool := decide (v18 = 0)
              bif v22 then (
                let v23 : Int := wrap .i64 (v15.1 + 1)
                some (.inl (v23, v15.2))) else
              (gin (v13).length v17.1).bind fun _ =>
              (gget 0 v13 v17.1).bind fun v24 =>
              (impl_HoldSlacks_cl1 (v12, (v17, (v24, v18)))).bind fun v25 =>
              (gin (v15.2.2).length v15.1).bind fun _ =>
              (gget false v15.2.2 v15.1).bind fun v27 =>
              let v28 : Bool := !v27
              bif v28 then (
                (gin (v15.2.1).length v15.1).bind fun _ =>
                (gget 0 v15.2.1 v15.1).bind fun v30 =>
                let v31 : Int := v25
                let v32 : List Int := gset v15.2.1 v15.1 v31
                (gin (v15.2.2).length v15.1).bind fun _ =>
                (gget false v15.2.2 v15.1).bind fun v34 =>
                let v35 : Bool := true
                let v36 : List Bool := gset v15.2.2 v15.1 v35
                let v37 : Int := wrap .i64 (v15.1 + 1)
                some (.inl (v37, (v32, v36)))) else
              (gin (v15.2.1).length v15.1).bind fun _ =>
              (gget 0 v15.2.1 v15.1).bind fun v30 =>
              let v31 : Bool := decide (v25 < v30)
              bif v31 then (
                (gin (v15.2.1).length v15.1).bind fun _ =>
                (gget 0 v15.2.1 v15.1).bind fun v33 =>
                let v34 : Int := v25
                let v35 : List Int := gset v15.2.1 v15.1 v34
                (gin (v15.2.2).length v15.1).bind fun _ =>
                (gget false v15.2.2 v15.1).bind fun v37 =>
                let v38 : Bool := true
                let v39 : List Bool := gset v15.2.2 v15.1 v38
                let v40 : Int := wrap .i64 (v15.1 + 1)
                some (.inl (v40, (v35, v39)))) else
              (gin (v15.2.2).length v15.1).bind fun _ =>
              (gget false v15.2.2 v15.1).bind fun v33 =>
              let v34 : Bool := true
              let v35 : List Bool := gset v15.2.2 v15.1 v34
              let v36 : Int := wrap .i64 (v15.1 + 1)
              some (.inl (v36, (v15.2.1, v35)))) else
            Option.map Sum.inr (
              let v17 : Int := wrap .i64 (v10.1 + 1)
              some (.inl (v17, v15.2)))) (0, v10.2)) else
        Option.map Sum.inr (
          some v10.2.1)) (0, (v5.2, v8)))) (0, v3)
noncomputable def impl_HoldSlacks (v0 : ((Int × List (Int × (Int × Int))) × (List (Int × Int) × (List (Int × Int) × List (Int × (Int × Int)))))) : Option (List Int) :=
  (impl_PointsOk (v0.1, v0.2.1)).bind fun v1 =>
  let v2 : Bool := !v1
  bif v2 then (
    some ([] : List Int)) else
  (impl_PointsOk (v0.1, v0.2.2.1)).bind fun v3 =>
  let v4 : Bool := !v3
  bif v4 then (
    some ([] : List Int)) else
  (impl_exceptionsOk v0.2.2.2).bind fun v5 =>
  let v6 : Bool := !v5
  bif v6 then (
    some ([] : List Int)) else
  (impl_slacks_66064 (v0.1, (v0.2.1, (v0.2.2.1, (v0.2.2.2, (false, ())))))).bind fun v7 =>
  some v7
noncomputable def spec_HoldSlacks (v0 : ((Int × List (Int × (Int × Int))) × (List (Int × Int) × (List (Int × Int) × List (Int × (Int × Int)))))) : Option (List Int) :=
  (spec_l36Valid v0).bind fun v1 =>
  let v2 : Bool := !v1
  bif v2 then (
    some ([] : List Int)) else
  (spec_l36Slacks (v0.1, (v0.2.1, (v0.2.2.1, (v0.2.2.2, 0))))).bind fun v3 =>
  some v3
end Go.Pf
