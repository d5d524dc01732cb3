/-
  Own work, printed by my tool: the readable functions.
-/
import Derived.Test.YtnllpdmiijbehaaPu2
namespace Go.Pf
open Go Go.Pu
set_option linter.unusedVariables false
noncomputable def laws_eqIntS (v0 : (List Int × List Int)) : Option Bool :=
  let v1 : Int := ((v0.1).length : Int)
  let v2 : Int := ((v0.2).length : Int)
  let v3 : Bool := decide (v1 ≠ v2)
  bif v3 then (
    some false) else
  Pu.loop (fun (v4 : Int) =>
    let v5 : Int := ((v0.1).length : Int)
    let v6 : Bool := decide (v4 < v5)
    bif v6 then (
      (gget 0 v0.1 v4).bind fun v7 =>
      (gget 0 v0.2 v4).bind fun v8 =>
      let v9 : Bool := decide (v7 ≠ v8)
      bif v9 then (
        Option.map Sum.inr (
          some false)) else
      let v10 : Int := wrap .i64 (v4 + 1)
      some (.inl v10)) else
    Option.map Sum.inr (
      some true)) 0
noncomputable def laws_markIntS (v0 : (List Int × Int)) : Option (Int × List Int) :=
  Pu.loop (fun (v1 : (Int × (Int × List Int))) =>
    let v2 : Int := ((v1.2.2).length : Int)
    let v3 : Bool := decide (v1.2.1 < v2)
    bif v3 then (
      (gin (v1.2.2).length v1.2.1).bind fun _ =>
      (gget 0 v1.2.2 v1.2.1).bind fun v5 =>
      let v6 : Int := v1.1
      let v7 : List Int := gset v1.2.2 v1.2.1 v6
      let v8 : Int := wrap .i64 (v1.1 + 1)
      let v9 : Int := wrap .i64 (v1.2.1 + 1)
      some (.inl (v8, (v9, v7)))) else
    Option.map Sum.inr (
      some (v1.1, v1.2.2))) (v0.2, (0, v0.1))
noncomputable def laws_heldIntS (v0 : (List Int × Int)) : Option Int :=
  Pu.loop (fun (v1 : (Int × Int)) =>
    let v2 : Int := ((v0.1).length : Int)
    let v3 : Bool := decide (v1.2 < v2)
    bif v3 then (
      (gget 0 v0.1 v1.2).bind fun v4 =>
      let v5 : Bool := decide (v4 ≠ v1.1)
      bif v5 then (
        Option.map Sum.inr (
          some (-1))) else
      let v6 : Int := wrap .i64 (v1.1 + 1)
      let v7 : Int := wrap .i64 (v1.2 + 1)
      some (.inl (v6, v7))) else
    Option.map Sum.inr (
      some v1.1)) (v0.2, 0)
noncomputable def laws_toIntS (v0 : List Int) : Option (List Int) :=
  let v1 : Int := ((v0).length : Int)
  (gmake 8 (0 : Int) v1).bind fun v2 =>
  Pu.loop (fun (v3 : (Int × List Int)) =>
    let v4 : Int := ((v0).length : Int)
    let v5 : Bool := decide (v3.1 < v4)
    bif v5 then (
      (gget 0 v0 v3.1).bind fun v6 =>
      (gin (v3.2).length v3.1).bind fun _ =>
      (gget 0 v3.2 v3.1).bind fun v8 =>
      let v9 : Int := v6
      let v10 : List Int := gset v3.2 v3.1 v9
      let v11 : Int := wrap .i64 (v3.1 + 1)
      some (.inl (v11, v10))) else
    Option.map Sum.inr (
      some v3.2)) (0, v2)
noncomputable def impl_inRange (v0 : (Int × (Int × Int))) : Option Bool :=
  let v1 : Bool := decide (v0.2.1 ≤ v0.1)
  bif v1 then (
    let v2 : Bool := decide (v0.1 ≤ v0.2.2)
    some v2) else
  some false
noncomputable def spec_l01In (v0 : (Int × (Int × Int))) : Option Bool :=
  let v1 : Bool := decide (v0.2.1 ≤ v0.1)
  bif v1 then (
    let v2 : Bool := decide (v0.1 ≤ v0.2.2)
    some v2) else
  some false
noncomputable def laws_szPinS (v0 : (List (Int × Int) × Int)) : Option Int :=
  let v1 : Int := ((v0.1).length : Int)
  let v2 : Int := wrap .i64 (v0.2 - v1)
  let v3 : Bool := decide (v2 < 0)
  bif v3 then (
    some (-1)) else
  some v2
noncomputable def laws_toPin (v0 : (Int × Int)) : Option (Int × Int) :=
  some v0
noncomputable def laws_eqPin (v0 : ((Int × Int) × (Int × Int))) : Option Bool :=
  let v1 : Bool := decide (v0.1.1 ≠ v0.2.1)
  bif v1 then (
    some false) else
  let v2 : Bool := decide (v0.1.2 ≠ v0.2.2)
  bif v2 then (
    some false) else
  some true
noncomputable def impl_tileKind (v0 : ((Int × (Int × (Int × Int))) × Int)) : Option Int :=
  (grem v0.2 v0.1.1).bind fun v1 =>
  (gdiv .i64 v0.2 v0.1.1).bind fun v2 =>
  let v3 : Bool := decide (v1 = 0)
  bif v3 then (
    some 0) else
  let v4 : Int := wrap .i64 (v0.1.1 - 1)
  let v5 : Bool := decide (v1 = v4)
  bif v5 then (
    some 0) else
  let v6 : Bool := decide (v2 = 0)
  bif v6 then (
    some 0) else
  let v7 : Int := wrap .i64 (v0.1.2.1 - 1)
  let v8 : Bool := decide (v2 = v7)
  bif v8 then (
    some 0) else
  let v9 : Bool := decide (v1 = v0.1.2.2.2)
  bif v9 then (
    some 2) else
  some 1
noncomputable def laws_szConn (v0 : ((Int × ((Int × Int) × List (Int × Int))) × Int)) : Option Int :=
  (laws_szPinS (v0.1.2.2, v0.2)).bind fun v1 =>
  let v2 : Bool := decide (v1 < 0)
  bif v2 then (
    some (-1)) else
  some v1
noncomputable def laws_eqPinS (v0 : (List (Int × Int) × List (Int × Int))) : Option Bool :=
  let v1 : Int := ((v0.1).length : Int)
  let v2 : Int := ((v0.2).length : Int)
  let v3 : Bool := decide (v1 ≠ v2)
  bif v3 then (
    some false) else
  Pu.loop (fun (v4 : Int) =>
    let v5 : Int := ((v0.1).length : Int)
    let v6 : Bool := decide (v4 < v5)
    bif v6 then (
      (gget (0, 0) v0.1 v4).bind fun v7 =>
      (gget (0, 0) v0.2 v4).bind fun v8 =>
      (laws_eqPin (v7, v8)).bind fun v9 =>
      let v10 : Bool := !v9
      bif v10 then (
        Option.map Sum.inr (
          some false)) else
      let v11 : Int := wrap .i64 (v4 + 1)
      some (.inl v11)) else
    Option.map Sum.inr (
      some true)) 0
noncomputable def spec_DeviceOk (v0 : (Int × (Int × (Int × Int)))) : Option Bool :=
  (spec_l01In (v0.1, (3, 6))).bind fun v1 =>
  bif v1 then (
    (spec_l01In (v0.2.1, (3, 6))).bind fun v2 =>
    bif v2 then (
      (spec_l01In (v0.2.2.1, (1, 4))).bind fun v3 =>
      bif v3 then (
        let v4 : Bool := decide (v0.2.2.2 = (-1))
        bif v4 then (
          some true) else
        let v5 : Int := wrap .i64 (v0.1 - 2)
        (spec_l01In (v0.2.2.2, (1, v5))).bind fun v6 =>
        some v6) else
      some false) else
    some false) else
  some false
noncomputable def impl_DeviceOk (v0 : (Int × (Int × (Int × Int)))) : Option Bool :=
  (impl_inRange (v0.1, (3, 6))).bind fun v1 =>
  bif v1 then (
    (impl_inRange (v0.2.1, (3, 6))).bind fun v2 =>
    bif v2 then (
      (impl_inRange (v0.2.2.1, (1, 4))).bind fun v3 =>
      bif v3 then (
        let v4 : Bool := decide (v0.2.2.2 = (-1))
        bif v4 then (
          some true) else
        let v5 : Int := wrap .i64 (v0.1 - 2)
        (impl_inRange (v0.2.2.2, (1, v5))).bind fun v6 =>
        some v6) else
      some false) else
    some false) else
  some false
noncomputable def laws_toPinS (v0 : List (Int × Int)) : Option (List (Int × Int)) :=
  let v1 : Int := ((v0).length : Int)
  (gmake 16 ((0, 0) : (Int × Int)) v1).bind fun v2 =>
  Pu.loop (fun (v3 : (Int × List (Int × Int))) =>
    let v4 : Int := ((v0).length : Int)
    let v5 : Bool := decide (v3.1 < v4)
    bif v5 then (
      (gget (0, 0) v0 v3.1).bind fun v6 =>
      (laws_toPin v6).bind fun v7 =>
      (gin (v3.2).length v3.1).bind fun _ =>
      (gget (0, 0) v3.2 v3.1).bind fun v9 =>
      let v10 : (Int × Int) := v7
      let v11 : List (Int × Int) := gset v3.2 v3.1 v10
      let v12 : Int := wrap .i64 (v3.1 + 1)
      some (.inl (v12, v11))) else
    Option.map Sum.inr (
      some v3.2)) (0, v2)
noncomputable def laws_szConnS (v0 : (List (Int × ((Int × Int) × List (Int × Int))) × Int)) : Option Int :=
  let v1 : Int := ((v0.1).length : Int)
  let v2 : Int := wrap .i64 (v0.2 - v1)
  let v3 : Bool := decide (v2 < 0)
  bif v3 then (
    some (-1)) else
  Pu.loop (fun (v4 : (Int × Int)) =>
    let v5 : Int := ((v0.1).length : Int)
    let v6 : Bool := decide (v4.2 < v5)
    bif v6 then (
      (gget (0, ((0, 0), [])) v0.1 v4.2).bind fun v7 =>
      (laws_szConn (v7, v4.1)).bind fun v8 =>
      let v9 : Bool := decide (v8 < 0)
      bif v9 then (
        Option.map Sum.inr (
          some (-1))) else
      let v10 : Int := wrap .i64 (v4.2 + 1)
      some (.inl (v8, v10))) else
    Option.map Sum.inr (
      some v4.1)) (v2, 0)
noncomputable def laws_toConn (v0 : (Int × ((Int × Int) × List (Int × Int)))) : Option (Int × ((Int × Int) × List (Int × Int))) :=
  (laws_toPin v0.2.1).bind fun v1 =>
  (laws_toPinS v0.2.2).bind fun v2 =>
  some (v0.1, (v1, v2))
noncomputable def laws_eqConn (v0 : ((Int × ((Int × Int) × List (Int × Int))) × (Int × ((Int × Int) × List (Int × Int))))) : Option Bool :=
  let v1 : Bool := decide (v0.1.1 ≠ v0.2.1)
  bif v1 then (
    some false) else
  (laws_eqPin (v0.1.2.1, v0.2.2.1)).bind fun v2 =>
  let v3 : Bool := !v2
  bif v3 then (
    some false) else
  (laws_eqPinS (v0.1.2.2, v0.2.2.2)).bind fun v4 =>
  let v5 : Bool := !v4
  bif v5 then (
    some false) else
  some true
noncomputable def spec_TileKind (v0 : ((Int × (Int × (Int × Int))) × Int)) : Option Int :=
  (spec_DeviceOk v0.1).bind fun v1 =>
  let v2 : Bool := !v1
  bif v2 then (
    some (-1)) else
  let v3 : Bool := decide (v0.2 < 0)
  bif v3 then (
    some (-1)) else
  let v4 : Int := wrap .i64 (v0.1.1 * v0.1.2.1)
  let v5 : Bool := decide (v4 ≤ v0.2)
  bif v5 then (
    some (-1)) else
  (grem v0.2 v0.1.1).bind fun v6 =>
  (gdiv .i64 v0.2 v0.1.1).bind fun v7 =>
  let v8 : Bool := decide (v6 = 0)
  bif v8 then (
    some 0) else
  let v9 : Bool := decide (v7 = 0)
  bif v9 then (
    some 0) else
  let v10 : Int := wrap .i64 (v0.1.1 - 1)
  let v11 : Bool := decide (v6 = v10)
  bif v11 then (
    some 0) else
  let v12 : Int := wrap .i64 (v0.1.2.1 - 1)
  let v13 : Bool := decide (v7 = v12)
  bif v13 then (
    some 0) else
  let v14 : Bool := decide (v6 = v0.1.2.2.2)
  bif v14 then (
    some 2) else
  some 1
noncomputable def impl_tileOk (v0 : ((Int × (Int × (Int × Int))) × Int)) : Option Bool :=
  (impl_DeviceOk v0.1).bind fun v1 =>
  bif v1 then (
    let v2 : Int := wrap .i64 (v0.1.1 * v0.1.2.1)
    let v3 : Int := wrap .i64 (v2 - 1)
    (impl_inRange (v0.2, (0, v3))).bind fun v4 =>
    some v4) else
  some false
noncomputable def laws_toConnS (v0 : List (Int × ((Int × Int) × List (Int × Int)))) : Option (List (Int × ((Int × Int) × List (Int × Int)))) :=
  let v1 : Int := ((v0).length : Int)
  (gmake 48 ((0, ((0, 0), [])) : (Int × ((Int × Int) × List (Int × Int)))) v1).bind fun v2 =>
  Pu.loop (fun (v3 : (Int × List (Int × ((Int × Int) × List (Int × Int))))) =>
    let v4 : Int := ((v0).length : Int)
    let v5 : Bool := decide (v3.1 < v4)
    bif v5 then (
      (gget (0, ((0, 0), [])) v0 v3.1).bind fun v6 =>
      (laws_toConn v6).bind fun v7 =>
      (gin (v3.2).length v3.1).bind fun _ =>
      (gget (0, ((0, 0), [])) v3.2 v3.1).bind fun v9 =>
      let v10 : (Int × ((Int × Int) × List (Int × Int))) := v7
      let v11 : List (Int × ((Int × Int) × List (Int × Int))) := gset v3.2 v3.1 v10
      let v12 : Int := wrap .i64 (v3.1 + 1)
      some (.inl (v12, v11))) else
    Option.map Sum.inr (
      some v3.2)) (0, v2)
noncomputable def laws_eqConnS (v0 : (List (Int × ((Int × Int) × List (Int × Int))) × List (Int × ((Int × Int) × List (Int × Int))))) : Option Bool :=
  let v1 : Int := ((v0.1).length : Int)
  let v2 : Int := ((v0.2).length : Int)
  let v3 : Bool := decide (v1 ≠ v2)
  bif v3 then (
    some false) else
  Pu.loop (fun (v4 : Int) =>
    let v5 : Int := ((v0.1).length : Int)
    let v6 : Bool := decide (v4 < v5)
    bif v6 then (
      (gget (0, ((0, 0), [])) v0.1 v4).bind fun v7 =>
      (gget (0, ((0, 0), [])) v0.2 v4).bind fun v8 =>
      (laws_eqConn (v7, v8)).bind fun v9 =>
      let v10 : Bool := !v9
      bif v10 then (
        Option.map Sum.inr (
          some false)) else
      let v11 : Int := wrap .i64 (v4 + 1)
      some (.inl v11)) else
    Option.map Sum.inr (
      some true)) 0
noncomputable def impl_TileKind (v0 : ((Int × (Int × (Int × Int))) × Int)) : Option Int :=
  (impl_tileOk v0).bind fun v1 =>
  let v2 : Bool := !v1
  bif v2 then (
    some (-1)) else
  (impl_tileKind v0).bind fun v3 =>
  some v3
noncomputable def laws_szPointS (v0 : (List (Int × Int) × Int)) : Option Int :=
  let v1 : Int := ((v0.1).length : Int)
  let v2 : Int := wrap .i64 (v0.2 - v1)
  let v3 : Bool := decide (v2 < 0)
  bif v3 then (
    some (-1)) else
  some v2
noncomputable def impl_delaysFrom (v0 : (List (List (Int × (Int × Int))) × (Int × Bool))) : Option (List Int) :=
  let v1 : Int := ((v0.1).length : Int)
  (gmake 8 (0 : Int) v1).bind fun v2 =>
  let v3 : Int := ((v2).length : Int)
  Pu.loop (fun (v4 : (Int × List Int)) =>
    let v5 : Bool := decide (v4.1 < v3)
    bif v5 then (
      (gin (v4.2).length v4.1).bind fun _ =>
      (gget 0 v4.2 v4.1).bind fun v7 =>
      let v8 : Int := (-1)
      let v9 : List Int := gset v4.2 v4.1 v8
      let v10 : Bool := decide (v4.1 = v0.2.1)
      bif v10 then (
        (gin (v9).length v4.1).bind fun _ =>
        (gget 0 v9 v4.1).bind fun v12 =>
        let v13 : Int := 0
        let v14 : List Int := gset v9 v4.1 v13
        let v15 : Int := wrap .i64 (v4.1 + 1)
        some (.inl (v15, v14))) else
      (gget [] v0.1 v4.1).bind fun v11 =>
      let v12 : Int := ((v11).length : Int)
      Pu.loop (fun (v13 : (Int × List Int)) =>
        let v14 : Bool := decide (v13.1 < v12)
        bif v14 then (
          (gget (0, (0, 0)) v11 v13.1).bind fun v15 =>
          (gin (v13.2).length v15.1).bind fun _ =>
          (gget 0 v13.2 v15.1).bind fun v17 =>
          let v18 : Bool := decide (v17 < 0)
          bif v18 then (
            let v19 : Int := wrap .i64 (v13.1 + 1)
            some (.inl (v19, v13.2))) else
          (gin (v13.2).length v15.1).bind fun _ =>
          (gget 0 v13.2 v15.1).bind fun v20 =>
          let v21 : Int := wrap .i64 (v20 + v15.2.2)
          (gin (v13.2).length v4.1).bind fun _ =>
          (gget 0 v13.2 v4.1).bind fun v23 =>
          let v24 : Bool := decide (v23 < 0)
          bif v24 then (
            (gin (v13.2).length v4.1).bind fun _ =>
            (gget 0 v13.2 v4.1).bind fun v26 =>
            let v27 : Int := v21
            let v28 : List Int := gset v13.2 v4.1 v27
            let v29 : Int := wrap .i64 (v13.1 + 1)
            some (.inl (v29, v28))) else
          bif v0.2.2 then (
            (gin (v13.2).length v4.1).bind fun _ =>
            (gget 0 v13.2 v4.1).bind fun v26 =>
            let v27 : Bool := decide (v26 < v21)
            bif v27 then (
              (gin (v13.2).length v4.1).bind fun _ =>
              (gget 0 v13.2 v4.1).bind fun v29 =>
              let v30 : Int := v21
              let v31 : List Int := gset v13.2 v4.1 v30
              let v32 : Int := wrap .i64 (v13.1 + 1)
              some (.inl (v32, v31))) else
            let v28 : Bool := !v0.2.2
            bif v28 then (
              (gin (v13.2).length v4.1).bind fun _ =>
              (gget 0 v13.2 v4.1).bind fun v30 =>
              let v31 : Bool := decide (v21 < v30)
              bif v31 then (
                (gin (v13.2).length v4.1).bind fun _ =>
                (gget 0 v13.2 v4.1).bind fun v33 =>
                let v34 : Int := v21
                let v35 : List Int := gset v13.2 v4.1 v34
                let v36 : Int := wrap .i64 (v13.1 + 1)
                some (.inl (v36, v35))) else
              let v32 : Int := wrap .i64 (v13.1 + 1)
              some (.inl (v32, v13.2))) else
            let v29 : Int := wrap .i64 (v13.1 + 1)
            some (.inl (v29, v13.2))) else
          let v25 : Bool := !v0.2.2
          bif v25 then (
            (gin (v13.2).length v4.1).bind fun _ =>
            (gget 0 v13.2 v4.1).bind fun v27 =>
            let v28 : Bool := decide (v21 < v27)
            bif v28 then (
              (gin (v13.2).length v4.1).bind fun _ =>
              (gget 0 v13.2 v4.1).bind fun v30 =>
              let v31 : Int := v21
              let v32 : List Int := gset v13.2 v4.1 v31
              let v33 : Int := wrap .i64 (v13.1 + 1)
              some (.inl (v33, v32))) else
            let v29 : Int := wrap .i64 (v13.1 + 1)
            some (.inl (v29, v13.2))) else
          let v26 : Int := wrap .i64 (v13.1 + 1)
          some (.inl (v26, v13.2))) else
        Option.map Sum.inr (
          let v15 : Int := wrap .i64 (v4.1 + 1)
          some (.inl (v15, v13.2)))) (0, v9)) else
    Option.map Sum.inr (
      some v4.2)) (0, v2)
noncomputable def impl_arcsInto (v0 : (Int × List (Int × (Int × Int)))) : Option (List (List (Int × (Int × Int)))) :=
  (gmake 24 ([] : List (Int × (Int × Int))) v0.1).bind fun v1 =>
  let v2 : Int := ((v0.2).length : Int)
  Pu.loop (fun (v3 : (Int × List (List (Int × (Int × Int))))) =>
    let v4 : Bool := decide (v3.1 < v2)
    bif v4 then (
      (gget (0, (0, 0)) v0.2 v3.1).bind fun v5 =>
      (gin (v3.2).length v5.2.1).bind fun _ =>
      (gget [] v3.2 v5.2.1).bind fun v7 =>
      let v8 : List (Int × (Int × Int)) := [v5]
      (gget [] v3.2 v5.2.1).bind fun v9 =>
      (gapp 24 v9 v8).bind fun v10 =>
      (gin (v3.2).length v5.2.1).bind fun _ =>
      (gget [] v3.2 v5.2.1).bind fun v12 =>
      let v13 : List (Int × (Int × Int)) := v10
      let v14 : List (List (Int × (Int × Int))) := gset v3.2 v5.2.1 v13
      let v15 : Int := wrap .i64 (v3.1 + 1)
      some (.inl (v15, v14))) else
    Option.map Sum.inr (
      some v3.2)) (0, v1)
noncomputable def laws_szArcS (v0 : (List (Int × (Int × Int)) × Int)) : Option Int :=
  let v1 : Int := ((v0.1).length : Int)
  let v2 : Int := wrap .i64 (v0.2 - v1)
  let v3 : Bool := decide (v2 < 0)
  bif v3 then (
    some (-1)) else
  some v2
noncomputable def laws_toPoint (v0 : (Int × Int)) : Option (Int × Int) :=
  some v0
noncomputable def laws_eqPoint (v0 : ((Int × Int) × (Int × Int))) : Option Bool :=
  let v1 : Bool := decide (v0.1.1 ≠ v0.2.1)
  bif v1 then (
    some false) else
  let v2 : Bool := decide (v0.1.2 ≠ v0.2.2)
  bif v2 then (
    some false) else
  some true
noncomputable def spec_l36Delays (v0 : ((Int × List (Int × (Int × Int))) × (Int × Bool))) : Option (List Int) :=
  (gmake 24 ([] : List (Int × (Int × Int))) v0.1.1).bind fun v1 =>
  Pu.loop (fun (v2 : (Int × List (List (Int × (Int × Int))))) =>
    let v3 : Int := ((v0.1.2).length : Int)
    let v4 : Bool := decide (v2.1 < v3)
    bif v4 then (
      (gget (0, (0, 0)) v0.1.2 v2.1).bind fun v5 =>
      (gget (0, (0, 0)) v0.1.2 v2.1).bind fun v6 =>
      (gin (v2.2).length v6.2.1).bind fun _ =>
      (gget [] v2.2 v6.2.1).bind fun v8 =>
      (gget (0, (0, 0)) v0.1.2 v2.1).bind fun v9 =>
      let v10 : List (Int × (Int × Int)) := [v9]
      (gget [] v2.2 v6.2.1).bind fun v11 =>
      (gapp 24 v11 v10).bind fun v12 =>
      (gin (v2.2).length v5.2.1).bind fun _ =>
      (gsame v5.2.1 v6.2.1).bind fun _ =>
      (gget [] v2.2 v6.2.1).bind fun v15 =>
      let v16 : List (Int × (Int × Int)) := v12
      let v17 : List (List (Int × (Int × Int))) := gset v2.2 v6.2.1 v16
      let v18 : Int := wrap .i64 (v2.1 + 1)
      some (.inl (v18, v17))) else
    Option.map Sum.inr (
      Pu.loop (fun (v5 : (Int × List Int)) =>
        let v6 : Bool := decide (v5.1 < v0.1.1)
        bif v6 then (
          joinO (
            let v7 : Bool := decide (v5.1 = v0.2.1)
            bif v7 then (
              some (.inl 0)) else
            some (.inl (-1))) (fun (v7 : Int) =>
            Pu.loop (fun (v8 : (Int × Int)) =>
              (gin (v2.2).length v5.1).bind fun _ =>
              (gget [] v2.2 v5.1).bind fun v10 =>
              let v11 : Int := ((v10).length : Int)
              let v12 : Bool := decide (v8.1 < v11)
              bif v12 then (
                (gin (v2.2).length v5.1).bind fun _ =>
                (gget [] v2.2 v5.1).bind fun v14 =>
                (gget (0, (0, 0)) v14 v8.1).bind fun v15 =>
                (gin (v5.2).length v15.1).bind fun _ =>
                (gget 0 v5.2 v15.1).bind fun v17 =>
                let v18 : Bool := decide (v17 < 0)
                bif v18 then (
                  let v19 : Int := wrap .i64 (v8.1 + 1)
                  some (.inl (v19, v8.2))) else
                (gin (v5.2).length v15.1).bind fun _ =>
                (gget 0 v5.2 v15.1).bind fun v20 =>
                let v21 : Int := wrap .i64 (v20 + v15.2.2)
                let v22 : Bool := decide (v8.2 < 0)
                bif v22 then (
                  let v23 : Int := wrap .i64 (v8.1 + 1)
                  some (.inl (v23, v21))) else
                bif v0.2.2 then (
                  let v23 : Bool := decide (v21 < v8.2)
                  bif v23 then (
                    let v24 : Int := wrap .i64 (v8.1 + 1)
                    some (.inl (v24, v21))) else
                  let v24 : Bool := !v0.2.2
                  bif v24 then (
                    let v25 : Bool := decide (v8.2 < v21)
                    bif v25 then (
                      let v26 : Int := wrap .i64 (v8.1 + 1)
                      some (.inl (v26, v21))) else
                    let v26 : Int := wrap .i64 (v8.1 + 1)
                    some (.inl (v26, v8.2))) else
                  let v25 : Int := wrap .i64 (v8.1 + 1)
                  some (.inl (v25, v8.2))) else
                let v23 : Bool := !v0.2.2
                bif v23 then (
                  let v24 : Bool := decide (v8.2 < v21)
                  bif v24 then (
                    let v25 : Int := wrap .i64 (v8.1 + 1)
                    some (.inl (v25, v21))) else
                  let v25 : Int := wrap .i64 (v8.1 + 1)
                  some (.inl (v25, v8.2))) else
                let v24 : Int := wrap .i64 (v8.1 + 1)
                some (.inl (v24, v8.2))) else
              Option.map Sum.inr (
                let v13 : List Int := [v8.2]
                (gapp 8 v5.2 v13).bind fun v14 =>
                let v15 : Int := wrap .i64 (v5.1 + 1)
                some (.inl (v15, v14)))) (0, v7))) else
        Option.map Sum.inr (
          some v5.2)) (0, ([] : List Int)))) (0, v1)
noncomputable def laws_markArcS (v0 : (List (Int × (Int × Int)) × Int)) : Option (Int × List (Int × (Int × Int))) :=
  Pu.loop (fun (v1 : (Int × (Int × List (Int × (Int × Int))))) =>
    let v2 : Int := ((v1.2.2).length : Int)
    let v3 : Bool := decide (v1.2.1 < v2)
    bif v3 then (
      (gin (v1.2.2).length v1.2.1).bind fun _ =>
      (gget (0, (0, 0)) v1.2.2 v1.2.1).bind fun v5 =>
      let v6 : (Int × (Int × Int)) := (v1.1, v5.2)
      let v7 : List (Int × (Int × Int)) := gset v1.2.2 v1.2.1 v6
      let v8 : Int := wrap .i64 (v1.1 + 1)
      (gin (v7).length v1.2.1).bind fun _ =>
      (gget (0, (0, 0)) v7 v1.2.1).bind fun v10 =>
      let v11 : (Int × (Int × Int)) := (v10.1, (v8, v10.2.2))
      let v12 : List (Int × (Int × Int)) := gset v7 v1.2.1 v11
      let v13 : Int := wrap .i64 (v8 + 1)
      (gin (v12).length v1.2.1).bind fun _ =>
      (gget (0, (0, 0)) v12 v1.2.1).bind fun v15 =>
      let v16 : (Int × (Int × Int)) := (v15.1, (v15.2.1, v13))
      let v17 : List (Int × (Int × Int)) := gset v12 v1.2.1 v16
      let v18 : Int := wrap .i64 (v13 + 1)
      let v19 : Int := wrap .i64 (v1.2.1 + 1)
      some (.inl (v18, (v19, v17)))) else
    Option.map Sum.inr (
      some (v1.1, v1.2.2))) (v0.2, (0, v0.1))
noncomputable def laws_toArc (v0 : (Int × (Int × Int))) : Option (Int × (Int × Int)) :=
  some v0
noncomputable def laws_eqArc (v0 : ((Int × (Int × Int)) × (Int × (Int × Int)))) : Option Bool :=
  let v1 : Bool := decide (v0.1.1 ≠ v0.2.1)
  bif v1 then (
    some false) else
  let v2 : Bool := decide (v0.1.2.1 ≠ v0.2.2.1)
  bif v2 then (
    some false) else
  let v3 : Bool := decide (v0.1.2.2 ≠ v0.2.2.2)
  bif v3 then (
    some false) else
  some true
noncomputable def impl_TimingOk (v0 : (Int × List (Int × (Int × Int)))) : Option Bool :=
  (impl_inRange (v0.1, (0, 500))).bind fun v1 =>
  let v2 : Bool := !v1
  bif v2 then (
    some false) else
  let v3 : Int := ((v0.2).length : Int)
  let v4 : Bool := decide (2000 < v3)
  bif v4 then (
    some false) else
  let v5 : Int := ((v0.2).length : Int)
  Pu.loop (fun (v6 : Int) =>
    let v7 : Bool := decide (v6 < v5)
    bif v7 then (
      (gget (0, (0, 0)) v0.2 v6).bind fun v8 =>
      let v9 : Int := wrap .i64 (v0.1 - 1)
      (impl_inRange (v8.2.1, (0, v9))).bind fun v10 =>
      let v11 : Bool := !v10
      bif v11 then (
        Option.map Sum.inr (
          some false)) else
      let v12 : Int := wrap .i64 (v8.2.1 - 1)
      (impl_inRange (v8.1, (0, v12))).bind fun v13 =>
      let v14 : Bool := !v13
      bif v14 then (
        Option.map Sum.inr (
          some false)) else
      (impl_inRange (v8.2.2, (0, 100))).bind fun v15 =>
      let v16 : Bool := !v15
      bif v16 then (
        Option.map Sum.inr (
          some false)) else
      let v17 : Int := wrap .i64 (v6 + 1)
      some (.inl v17)) else
    Option.map Sum.inr (
      some true)) 0
noncomputable def laws_szTimingGraph (v0 : ((Int × List (Int × (Int × Int))) × Int)) : Option Int :=
  (laws_szArcS (v0.1.2, v0.2)).bind fun v1 =>
  let v2 : Bool := decide (v1 < 0)
  bif v2 then (
    some (-1)) else
  some v1
noncomputable def laws_toPointS (v0 : List (Int × Int)) : Option (List (Int × Int)) :=
  let v1 : Int := ((v0).length : Int)
  (gmake 16 ((0, 0) : (Int × Int)) v1).bind fun v2 =>
  Pu.loop (fun (v3 : (Int × List (Int × Int))) =>
    let v4 : Int := ((v0).length : Int)
    let v5 : Bool := decide (v3.1 < v4)
    bif v5 then (
      (gget (0, 0) v0 v3.1).bind fun v6 =>
      (laws_toPoint v6).bind fun v7 =>
      (gin (v3.2).length v3.1).bind fun _ =>
      (gget (0, 0) v3.2 v3.1).bind fun v9 =>
      let v10 : (Int × Int) := v7
      let v11 : List (Int × Int) := gset v3.2 v3.1 v10
      let v12 : Int := wrap .i64 (v3.1 + 1)
      some (.inl (v12, v11))) else
    Option.map Sum.inr (
      some v3.2)) (0, v2)
noncomputable def laws_eqPointS (v0 : (List (Int × Int) × List (Int × Int))) : Option Bool :=
  let v1 : Int := ((v0.1).length : Int)
  let v2 : Int := ((v0.2).length : Int)
  let v3 : Bool := decide (v1 ≠ v2)
  bif v3 then (
    some false) else
  Pu.loop (fun (v4 : Int) =>
    let v5 : Int := ((v0.1).length : Int)
    let v6 : Bool := decide (v4 < v5)
    bif v6 then (
      (gget (0, 0) v0.1 v4).bind fun v7 =>
      (gget (0, 0) v0.2 v4).bind fun v8 =>
      (laws_eqPoint (v7, v8)).bind fun v9 =>
      let v10 : Bool := !v9
      bif v10 then (
        Option.map Sum.inr (
          some false)) else
      let v11 : Int := wrap .i64 (v4 + 1)
      some (.inl v11)) else
    Option.map Sum.inr (
      some true)) 0
noncomputable def laws_markTimingGraph (v0 : ((Int × List (Int × (Int × Int))) × Int)) : Option (Int × List (Int × (Int × Int))) :=
  (laws_markArcS (v0.1.2, v0.2)).bind fun v1 =>
  some v1
noncomputable def spec_TimingOk (v0 : (Int × List (Int × (Int × Int)))) : Option Bool :=
  (spec_l01In (v0.1, (0, 500))).bind fun v1 =>
  let v2 : Bool := !v1
  bif v2 then (
    some false) else
  let v3 : Int := ((v0.2).length : Int)
  let v4 : Bool := decide (2000 < v3)
  bif v4 then (
    some false) else
  Pu.loop (fun (v5 : Int) =>
    let v6 : Int := ((v0.2).length : Int)
    let v7 : Bool := decide (v5 < v6)
    bif v7 then (
      (gget (0, (0, 0)) v0.2 v5).bind fun v8 =>
      let v9 : Bool := decide (v8.1 < 0)
      bif v9 then (
        Option.map Sum.inr (
          some false)) else
      let v10 : Bool := decide (v8.2.1 ≤ v8.1)
      bif v10 then (
        Option.map Sum.inr (
          some false)) else
      let v11 : Bool := decide (v0.1 ≤ v8.2.1)
      bif v11 then (
        Option.map Sum.inr (
          some false)) else
      (spec_l01In (v8.2.2, (0, 100))).bind fun v12 =>
      let v13 : Bool := !v12
      bif v13 then (
        Option.map Sum.inr (
          some false)) else
      let v14 : Int := wrap .i64 (v5 + 1)
      some (.inl v14)) else
    Option.map Sum.inr (
      some true)) 0
noncomputable def laws_toArcS (v0 : List (Int × (Int × Int))) : Option (List (Int × (Int × Int))) :=
  let v1 : Int := ((v0).length : Int)
  (gmake 24 ((0, (0, 0)) : (Int × (Int × Int))) v1).bind fun v2 =>
  Pu.loop (fun (v3 : (Int × List (Int × (Int × Int)))) =>
    let v4 : Int := ((v0).length : Int)
    let v5 : Bool := decide (v3.1 < v4)
    bif v5 then (
      (gget (0, (0, 0)) v0 v3.1).bind fun v6 =>
      (laws_toArc v6).bind fun v7 =>
      (gin (v3.2).length v3.1).bind fun _ =>
      (gget (0, (0, 0)) v3.2 v3.1).bind fun v9 =>
      let v10 : (Int × (Int × Int)) := v7
      let v11 : List (Int × (Int × Int)) := gset v3.2 v3.1 v10
      let v12 : Int := wrap .i64 (v3.1 + 1)
      some (.inl (v12, v11))) else
    Option.map Sum.inr (
      some v3.2)) (0, v2)
noncomputable def laws_eqArcS (v0 : (List (Int × (Int × Int)) × List (Int × (Int × Int)))) : Option Bool :=
  let v1 : Int := ((v0.1).length : Int)
  let v2 : Int := ((v0.2).length : Int)
  let v3 : Bool := decide (v1 ≠ v2)
  bif v3 then (
    some false) else
  Pu.loop (fun (v4 : Int) =>
    let v5 : Int := ((v0.1).length : Int)
    let v6 : Bool := decide (v4 < v5)
    bif v6 then (
      (gget (0, (0, 0)) v0.1 v4).bind fun v7 =>
      (gget (0, (0, 0)) v0.2 v4).bind fun v8 =>
      (laws_eqArc (v7, v8)).bind fun v9 =>
      let v10 : Bool := !v9
      bif v10 then (
        Option.map Sum.inr (
          some false)) else
      let v11 : Int := wrap .i64 (v4 + 1)
      some (.inl v11)) else
    Option.map Sum.inr (
      some true)) 0
noncomputable def impl_LongestDelays (v0 : ((Int × List (Int × (Int × Int))) × Int)) : Option (List Int) :=
  (impl_TimingOk v0.1).bind fun v1 =>
  let v2 : Bool := !v1
  bif v2 then (
    some ([] : List Int)) else
  let v3 : Int := wrap .i64 (v0.1.1 - 1)
  (impl_inRange (v0.2, (0, v3))).bind fun v4 =>
  let v5 : Bool := !v4
  bif v5 then (
    some ([] : List Int)) else
  (impl_arcsInto v0.1).bind fun v6 =>
  (impl_delaysFrom (v6, (v0.2, true))).bind fun v7 =>
  some v7
noncomputable def impl_ShortestDelays (v0 : ((Int × List (Int × (Int × Int))) × Int)) : Option (List Int) :=
  (impl_TimingOk v0.1).bind fun v1 =>
  let v2 : Bool := !v1
  bif v2 then (
    some ([] : List Int)) else
  let v3 : Int := wrap .i64 (v0.1.1 - 1)
  (impl_inRange (v0.2, (0, v3))).bind fun v4 =>
  let v5 : Bool := !v4
  bif v5 then (
    some ([] : List Int)) else
  (impl_arcsInto v0.1).bind fun v6 =>
  (impl_delaysFrom (v6, (v0.2, false))).bind fun v7 =>
  some v7
noncomputable def impl_PointsOk (v0 : ((Int × List (Int × (Int × Int))) × List (Int × Int))) : Option Bool :=
  (impl_TimingOk v0.1).bind fun v1 =>
  let v2 : Bool := !v1
  bif v2 then (
    some false) else
  let v3 : Int := ((v0.2).length : Int)
  let v4 : Bool := decide (100 < v3)
  bif v4 then (
    some false) else
  let v5 : Int := ((v0.2).length : Int)
  Pu.loop (fun (v6 : Int) =>
    let v7 : Bool := decide (v6 < v5)
    bif v7 then (
      (gget (0, 0) v0.2 v6).bind fun v8 =>
      let v9 : Int := wrap .i64 (v0.1.1 - 1)
      (impl_inRange (v8.1, (0, v9))).bind fun v10 =>
      let v11 : Bool := !v10
      bif v11 then (
        Option.map Sum.inr (
          some false)) else
      (impl_inRange (v8.2, (0, 50))).bind fun v12 =>
      let v13 : Bool := !v12
      bif v13 then (
        Option.map Sum.inr (
          some false)) else
      let v14 : Int := wrap .i64 (v6 + 1)
      some (.inl v14)) else
    Option.map Sum.inr (
      some true)) 0
noncomputable def laws_toTimingGraph (v0 : (Int × List (Int × (Int × Int)))) : Option (Int × List (Int × (Int × Int))) :=
  (laws_toArcS v0.2).bind fun v1 =>
  some (v0.1, v1)
noncomputable def laws_eqTimingGraph (v0 : ((Int × List (Int × (Int × Int))) × (Int × List (Int × (Int × Int))))) : Option Bool :=
  let v1 : Bool := decide (v0.1.1 ≠ v0.2.1)
  bif v1 then (
    some false) else
  (laws_eqArcS (v0.1.2, v0.2.2)).bind fun v2 =>
  let v3 : Bool := !v2
  bif v3 then (
    some false) else
  some true
noncomputable def spec_PointsOk (v0 : ((Int × List (Int × (Int × Int))) × List (Int × Int))) : Option Bool :=
  (spec_TimingOk v0.1).bind fun v1 =>
  let v2 : Bool := !v1
  bif v2 then (
    some false) else
  let v3 : Int := ((v0.2).length : Int)
  let v4 : Bool := decide (100 < v3)
  bif v4 then (
    some false) else
  Pu.loop (fun (v5 : Int) =>
    let v6 : Int := ((v0.2).length : Int)
    let v7 : Bool := decide (v5 < v6)
    bif v7 then (
      (gget (0, 0) v0.2 v5).bind fun v8 =>
      let v9 : Bool := decide (v8.1 < 0)
      bif v9 then (
        Option.map Sum.inr (
          some false)) else
      (gget (0, 0) v0.2 v5).bind fun v10 =>
      let v11 : Bool := decide (v0.1.1 ≤ v10.1)
      bif v11 then (
        Option.map Sum.inr (
          some false)) else
      (gget (0, 0) v0.2 v5).bind fun v12 =>
      (spec_l01In (v12.2, (0, 50))).bind fun v13 =>
      let v14 : Bool := !v13
      bif v14 then (
        Option.map Sum.inr (
          some false)) else
      let v15 : Int := wrap .i64 (v5 + 1)
      some (.inl v15)) else
    Option.map Sum.inr (
      some true)) 0
noncomputable def spec_l36Node (v0 : ((Int × List (Int × (Int × Int))) × Int)) : Option Bool :=
  (spec_TimingOk v0.1).bind fun v1 =>
  bif v1 then (
    let v2 : Bool := decide (0 ≤ v0.2)
    bif v2 then (
      let v3 : Bool := decide (v0.2 < v0.1.1)
      some v3) else
    some false) else
  some false
noncomputable def spec_LongestDelays (v0 : ((Int × List (Int × (Int × Int))) × Int)) : Option (List Int) :=
  (spec_l36Node v0).bind fun v1 =>
  let v2 : Bool := !v1
  bif v2 then (
    some ([] : List Int)) else
  (spec_l36Delays (v0.1, (v0.2, false))).bind fun v3 =>
  some v3
noncomputable def spec_ShortestDelays (v0 : ((Int × List (Int × (Int × Int))) × Int)) : Option (List Int) :=
  (spec_l36Node v0).bind fun v1 =>
  let v2 : Bool := !v1
  bif v2 then (
    some ([] : List Int)) else
  (spec_l36Delays (v0.1, (v0.2, true))).bind fun v3 =>
  some v3
noncomputable def laws_FnExactShortestDelays (v0 : ((Int × List (Int × (Int × Int))) × Int)) : Option Bool :=
  (laws_szTimingGraph (v0.1, 1048576)).bind fun v1 =>
  let v2 : Bool := decide (v1 < 0)
  bif v2 then (
    some true) else
  (laws_toTimingGraph v0.1).bind fun v3 =>
  (spec_ShortestDelays (v3, v0.2)).bind fun v4 =>
  (laws_toTimingGraph v0.1).bind fun v5 =>
  (impl_ShortestDelays (v5, v0.2)).bind fun v6 =>
  (laws_eqIntS (v6, v4)).bind fun v7 =>
  let v8 : Bool := !v7
  bif v8 then (
    some false) else
  (laws_toTimingGraph v0.1).bind fun v9 =>
  (laws_eqTimingGraph (v5, v9)).bind fun v10 =>
  let v11 : Bool := !v10
  bif v11 then (
    some false) else
  (laws_markTimingGraph (v5, 1)).bind fun v12 =>
  let v13 : Bool := decide (v12.1 < 0)
  bif v13 then (
    some false) else
  (laws_eqIntS (v6, v4)).bind fun v14 =>
  let v15 : Bool := !v14
  bif v15 then (
    some false) else
  (laws_markIntS (v6, 1)).bind fun v16 =>
  (laws_heldIntS (v16.2, 1)).bind fun v17 =>
  let v18 : Bool := decide (v17 < 0)
  bif v18 then (
    some false) else
  let v19 : Bool := decide (v17 ≠ v16.1)
  bif v19 then (
    some false) else
  (laws_toTimingGraph v0.1).bind fun v20 =>
  (impl_ShortestDelays (v20, v0.2)).bind fun v21 =>
  (laws_eqIntS (v21, v4)).bind fun v22 =>
  let v23 : Bool := !v22
  bif v23 then (
    some false) else
  (laws_heldIntS (v16.2, 1)).bind fun v24 =>
  let v25 : Bool := decide (v24 < 0)
  bif v25 then (
    some false) else
  let v26 : Bool := decide (v24 ≠ v16.1)
  bif v26 then (
    some false) else
  some true
noncomputable def spec_l27Per (v0 : (Int × (Int × (Int × Int)))) : Option Int :=
  let v1 : Int := wrap .i64 (4 * v0.2.2.1)
  let v2 : Int := wrap .i64 (7 + v1)
  some v2
noncomputable def spec_InPins (v0 : Int) : Option Int :=
  let v1 : Bool := decide (v0 = 0)
  bif v1 then (
    some 1) else
  let v2 : Bool := decide (v0 = 1)
  bif v2 then (
    some 5) else
  let v3 : Bool := decide (v0 = 2)
  bif v3 then (
    some 4) else
  some 0
noncomputable def spec_OutPins (v0 : Int) : Option Int :=
  let v1 : Bool := decide (v0 = 0)
  bif v1 then (
    bif v1 then (
      some 1) else
    let v2 : Bool := decide (v0 = 1)
    bif v2 then (
      some 2) else
    some 0) else
  let v2 : Bool := decide (v0 = 2)
  bif v2 then (
    some 1) else
  let v3 : Bool := decide (v0 = 1)
  bif v3 then (
    some 2) else
  some 0
noncomputable def impl_InPins (v0 : Int) : Option Int :=
  let v1 : Bool := decide (v0 = 0)
  bif v1 then (
    some 1) else
  let v2 : Bool := decide (v0 = 1)
  bif v2 then (
    some 5) else
  let v3 : Bool := decide (v0 = 2)
  bif v3 then (
    some 4) else
  some 0
noncomputable def impl_OutPins (v0 : Int) : Option Int :=
  let v1 : Bool := decide (v0 = 0)
  bif v1 then (
    bif v1 then (
      some 1) else
    let v2 : Bool := decide (v0 = 1)
    bif v2 then (
      some 2) else
    some 0) else
  let v2 : Bool := decide (v0 = 2)
  bif v2 then (
    some 1) else
  let v3 : Bool := decide (v0 = 1)
  bif v3 then (
    some 2) else
  some 0
noncomputable def impl_perTile (v0 : (Int × (Int × (Int × Int)))) : Option Int :=
  let v1 : Int := wrap .i64 (4 * v0.2.2.1)
  let v2 : Int := wrap .i64 (7 + v1)
  some v2
noncomputable def impl_routeNodes (v0 : (Int × (Int × (Int × Int)))) : Option Int :=
  let v1 : Int := wrap .i64 (v0.1 * v0.2.1)
  (impl_perTile v0).bind fun v2 =>
  let v3 : Int := wrap .i64 (v1 * v2)
  some v3
noncomputable def spec_RouteNodes (v0 : (Int × (Int × (Int × Int)))) : Option Int :=
  (spec_DeviceOk v0).bind fun v1 =>
  let v2 : Bool := !v1
  bif v2 then (
    some 0) else
  let v3 : Int := wrap .i64 (v0.1 * v0.2.1)
  (spec_l27Per v0).bind fun v4 =>
  let v5 : Int := wrap .i64 (v3 * v4)
  some v5
end Go.Pf
