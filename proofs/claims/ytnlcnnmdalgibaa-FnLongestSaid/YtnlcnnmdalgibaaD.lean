/-
  Own work, printed by my tool: the readable functions.
-/
import Derived.Test.YtnlcnnmdalgibaaPu3
namespace Go.Pf
open Go Go.Pu
set_option linter.unusedVariables false
noncomputable def impl_inRange (v0 : (Int × (Int × Int))) : Option Bool :=
 let v1 : Bool := decide (v0.2.1 ≤ v0.1)
 bif v1 then (
  let v2 : Bool := decide (v0.1 ≤ v0.2.2)
  some v2) else
 some false
noncomputable def spec_l01In (v0 : (Int × (Int × Int))) : Option Bool :=
 let v1 : Bool := decide (v0.2.1 ≤ v0.1)
 bif v1 then (
  let v2 : Bool := decide (v0.1 ≤ v0.2.2)
  some v2) else
 some false
noncomputable def impl_delaysFrom (v0 : (List (List (Int × (Int × Int))) × (Int × Bool))) : Option (List Int) :=
 let v1 : Int := ((v0.1).length : Int)
 (gmake 8 (0 : Int) v1).bind fun v2 =>
 let v3 : Int := ((v2).length : Int)
 Pu.loop (fun (v4 : (Int × List Int)) =>
  let v5 : Bool := decide (v4.1 < v3)
  bif v5 then (
   (gin (v4.2).length v4.1).bind fun _ =>
   (gget 0 v4.2 v4.1).bind fun v7 =>
   let v8 : Int := (-1)
   let v9 : List Int := gset v4.2 v4.1 v8
   let v10 : Bool := decide (v4.1 = v0.2.1)
   bif v10 then (
    (gin (v9).length v4.1).bind fun _ =>
    (gget 0 v9 v4.1).bind fun v12 =>
    let v13 : Int := 0
    let v14 : List Int := gset v9 v4.1 v13
    let v15 : Int := wrap .i64 (v4.1 + 1)
    some (.inl (v15, v14))) else
   (gget [] v0.1 v4.1).bind fun v11 =>
   let v12 : Int := ((v11).length : Int)
   Pu.loop (fun (v13 : (Int × List Int)) =>
    let v14 : Bool := decide (v13.1 < v12)
    bif v14 then (
     (gget (0, (0, 0)) v11 v13.1).bind fun v15 =>
     (gin (v13.2).length v15.1).bind fun _ =>
     (gget 0 v13.2 v15.1).bind fun v17 =>
     let v18 : Bool := decide (v17 < 0)
     bif v18 then (
      let v19 : Int := wrap .i64 (v13.1 + 1)
      some (.inl (v19, v13.2))) else
     (gin (v13.2).length v15.1).bind fun _ =>
     (gget 0 v13.2 v15.1).bind fun v20 =>
     let v21 : Int := wrap .i64 (v20 + v15.2.2)
     (gin (v13.2).length v4.1).bind fun _ =>
     (gget 0 v13.2 v4.1).bind fun v23 =>
     let v24 : Bool := decide (v23 < 0)
     bif v24 then (
      (gin (v13.2).length v4.1).bind fun _ =>
      (gget 0 v13.2 v4.1).bind fun v26 =>
      let v27 : Int := v21
      let v28 : List Int := gset v13.2 v4.1 v27
      let v29 : Int := wrap .i64 (v13.1 + 1)
      some (.inl (v29, v28))) else
     bif v0.2.2 then (
      (gin (v13.2).length v4.1).bind fun _ =>
      (gget 0 v13.2 v4.1).bind fun v26 =>
      let v27 : Bool := decide (v26 < v21)
      bif v27 then (
       (gin (v13.2).length v4.1).bind fun _ =>
       (gget 0 v13.2 v4.1).bind fun v29 =>
       let v30 : Int := v21
       let v31 : List Int := gset v13.2 v4.1 v30
       let v32 : Int := wrap .i64 (v13.1 + 1)
       some (.inl (v32, v31))) else
      let v28 : Bool := !v0.2.2
      bif v28 then (
       (gin (v13.2).length v4.1).bind fun _ =>
       (gget 0 v13.2 v4.1).bind fun v30 =>
       let v31 : Bool := decide (v21 < v30)
       bif v31 then (
        (gin (v13.2).length v4.1).bind fun _ =>
        (gget 0 v13.2 v4.1).bind fun v33 =>
        let v34 : Int := v21
        let v35 : List Int := gset v13.2 v4.1 v34
        let v36 : Int := wrap .i64 (v13.1 + 1)
        some (.inl (v36, v35))) else
       let v32 : Int := wrap .i64 (v13.1 + 1)
       some (.inl (v32, v13.2))) else
      let v29 : Int := wrap .i64 (v13.1 + 1)
      some (.inl (v29, v13.2))) else
     let v25 : Bool := !v0.2.2
     bif v25 then (
      (gin (v13.2).length v4.1).bind fun _ =>
      (gget 0 v13.2 v4.1).bind fun v27 =>
      let v28 : Bool := decide (v21 < v27)
      bif v28 then (
       (gin (v13.2).length v4.1).bind fun _ =>
       (gget 0 v13.2 v4.1).bind fun v30 =>
       let v31 : Int := v21
       let v32 : List Int := gset v13.2 v4.1 v31
       let v33 : Int := wrap .i64 (v13.1 + 1)
       some (.inl (v33, v32))) else
      let v29 : Int := wrap .i64 (v13.1 + 1)
      some (.inl (v29, v13.2))) else
     let v26 : Int := wrap .i64 (v13.1 + 1)
     some (.inl (v26, v13.2))) else
    Option.map Sum.inr (
     let v15 : Int := wrap .i64 (v4.1 + 1)
     some (.inl (v15, v13.2)))) (0, v9)) else
  Option.map Sum.inr (
   some v4.2)) (0, v2)
noncomputable def impl_arcsInto (v0 : (Int × List (Int × (Int × Int)))) : Option (List (List (Int × (Int × Int)))) :=
 (gmake 24 ([] : List (Int × (Int × Int))) v0.1).bind fun v1 =>
 let v2 : Int := ((v0.2).length : Int)
 Pu.loop (fun (v3 : (Int × List (List (Int × (Int × Int))))) =>
  let v4 : Bool := decide (v3.1 < v2)
  bif v4 then (
   (gget (0, (0, 0)) v0.2 v3.1).bind fun v5 =>
   (gin (v3.2).length v5.2.1).bind fun _ =>
   (gget [] v3.2 v5.2.1).bind fun v7 =>
   let v8 : List (Int × (Int × Int)) := [v5]
   (gget [] v3.2 v5.2.1).bind fun v9 =>
   (gapp 24 v9 v8).bind fun v10 =>
   (gin (v3.2).length v5.2.1).bind fun _ =>
   (gget [] v3.2 v5.2.1).bind fun v12 =>
   let v13 : List (Int × (Int × Int)) := v10
   let v14 : List (List (Int × (Int × Int))) := gset v3.2 v5.2.1 v13
   let v15 : Int := wrap .i64 (v3.1 + 1)
   some (.inl (v15, v14))) else
  Option.map Sum.inr (
   some v3.2)) (0, v1)
noncomputable def impl_TimingOk (v0 : (Int × List (Int × (Int × Int)))) : Option Bool :=
 (impl_inRange (v0.1, (0, 500))).bind fun v1 =>
 let v2 : Bool := !v1
 bif v2 then (
  some false) else
 let v3 : Int := ((v0.2).length : Int)
 let v4 : Bool := decide (2000 < v3)
 bif v4 then (
  some false) else
 let v5 : Int := ((v0.2).length : Int)
 Pu.loop (fun (v6 : Int) =>
  let v7 : Bool := decide (v6 < v5)
  bif v7 then (
   (gget (0, (0, 0)) v0.2 v6).bind fun v8 =>
   let v9 : Int := wrap .i64 (v0.1 - 1)
   (impl_inRange (v8.2.1, (0, v9))).bind fun v10 =>
   let v11 : Bool := !v10
   bif v11 then (
    Option.map Sum.inr (
     some false)) else
   let v12 : Int := wrap .i64 (v8.2.1 - 1)
   (impl_inRange (v8.1, (0, v12))).bind fun v13 =>
   let v14 : Bool := !v13
   bif v14 then (
    Option.map Sum.inr (
     some false)) else
   (impl_inRange (v8.2.2, (0, 100))).bind fun v15 =>
   let v16 : Bool := !v15
   bif v16 then (
    Option.map Sum.inr (
     some false)) else
   let v17 : Int := wrap .i64 (v6 + 1)
   some (.inl v17)) else
  Option.map Sum.inr (
   some true)) 0
noncomputable def impl_LongestDelays (v0 : ((Int × List (Int × (Int × Int))) × Int)) : Option (List Int) :=
 (impl_TimingOk v0.1).bind fun v1 =>
 let v2 : Bool := !v1
 bif v2 then (
  some ([] : List Int)) else
 let v3 : Int := wrap .i64 (v0.1.1 - 1)
 (impl_inRange (v0.2, (0, v3))).bind fun v4 =>
 let v5 : Bool := !v4
 bif v5 then (
  some ([] : List Int)) else
 (impl_arcsInto v0.1).bind fun v6 =>
 (impl_delaysFrom (v6, (v0.2, true))).bind fun v7 =>
 some v7
noncomputable def impl_ShortestDelays (v0 : ((Int × List (Int × (Int × Int))) × Int)) : Option (List Int) :=
 (impl_TimingOk v0.1).bind fun v1 =>
 let v2 : Bool := !v1
 bif v2 then (
  some ([] : List Int)) else
 let v3 : Int := wrap .i64 (v0.1.1 - 1)
 (impl_inRange (v0.2, (0, v3))).bind fun v4 =>
 let v5 : Bool := !v4
 bif v5 then (
  some ([] : List Int)) else
 (impl_arcsInto v0.1).bind fun v6 =>
 (impl_delaysFrom (v6, (v0.2, false))).bind fun v7 =>
 some v7
noncomputable def impl_PointsOk (v0 : ((Int × List (Int × (Int × Int))) × List (Int × Int))) : Option Bool :=
 (impl_TimingOk v0.1).bind fun v1 =>
 let v2 : Bool := !v1
 bif v2 then (
  some false) else
 let v3 : Int := ((v0.2).length : Int)
 let v4 : Bool := decide (100 < v3)
 bif v4 then (
  some false) else
 let v5 : Int := ((v0.2).length : Int)
 Pu.loop (fun (v6 : Int) =>
  let v7 : Bool := decide (v6 < v5)
  bif v7 then (
   (gget (0, 0) v0.2 v6).bind fun v8 =>
   let v9 : Int := wrap .i64 (v0.1.1 - 1)
   (impl_inRange (v8.1, (0, v9))).bind fun v10 =>
   let v11 : Bool := !v10
   bif v11 then (
    Option.map Sum.inr (
     some false)) else
   (impl_inRange (v8.2, (0, 50))).bind fun v12 =>
   let v13 : Bool := !v12
   bif v13 then (
    Option.map Sum.inr (
     some false)) else
   let v14 : Int := wrap .i64 (v6 + 1)
   some (.inl v14)) else
  Option.map Sum.inr (
   some true)) 0
noncomputable def laws_big (v0 : List Int) : Option Bool :=
 let v1 : Int := ((v0).length : Int)
 let v2 : Bool := decide (1048576 < v1)
 some v2
noncomputable def spec_l01New (v0 : List Int) : Option (Int × Int) :=
 let v1 : Int := ((v0).length : Int)
 let v2 : Int := wrap .i64 (33117 + v1)
 joinO (
  Pu.loop (fun (v3 : (Int × Int)) =>
   let v4 : Int := ((v0).length : Int)
   let v5 : Bool := decide (v3.2 < v4)
   bif v5 then (
    let v6 : Bool := decide (v3.2 < 4000)
    bif v6 then (
     let v7 : Int := wrap .i64 (v3.1 * 131)
     (gget 0 v0 v3.2).bind fun v8 =>
     let v9 : Int := wrap .i64 v8
     let v10 : Int := wrap .i64 (v7 + v9)
     let v11 : Int := wrap .i64 (v10 + 7)
     let v12 : Int := gand .i64 v11 1073741823
     let v13 : Int := wrap .i64 (v3.2 + 1)
     some (.inl (v12, v13))) else
    Option.map Sum.inr (
     some (.inl v3.1))) else
   Option.map Sum.inr (
    some (.inl v3.1))) (v2, 0)) (fun (v3 : Int) =>
  some (0, v3))
noncomputable def spec_l01Byte (v0 : (List Int × (Int × Int))) : Option (Int × (Int × Int)) :=
 let v1 : Int := wrap .i64 (v0.2.2 * 6364136223846793005)
 let v2 : Int := wrap .i64 (v1 + 1442695040888963407)
 (gshift false .i64 v2 33).bind fun v3 =>
 (gshift false .i64 v2 45).bind fun v4 =>
 let v5 : Int := gxor .i64 v3 v4
 let v6 : Int := gand .i64 v5 255
 let v7 : Int := ((v0.1).length : Int)
 let v8 : Bool := decide (v0.2.1 < v7)
 bif v8 then (
  (gget 0 v0.1 v0.2.1).bind fun v9 =>
  let v10 : Int := wrap .i64 v9
  let v11 : Int := wrap .i64 (v6 + v10)
  let v12 : Int := gand .i64 v11 255
  let v13 : Int := wrap .i64 (v0.2.1 + 1)
  some (v12, (v13, v2))) else
 some (v6, (v0.2.1, v2))
noncomputable def spec_l01Below (v0 : ((List Int × (Int × Int)) × Int)) : Option (Int × (Int × Int)) :=
 let v1 : Bool := decide (v0.2 ≤ 0)
 bif v1 then (
  some (0, v0.1.2)) else
 let v2 : Bool := decide (v0.2 ≤ 256)
 bif v2 then (
  (spec_l01Byte v0.1).bind fun v3 =>
  (grem v3.1 v0.2).bind fun v4 =>
  some (v4, v3.2)) else
 (spec_l01Byte v0.1).bind fun v3 =>
 (spec_l01Byte (v0.1.1, v3.2)).bind fun v4 =>
 (spec_l01Byte (v0.1.1, v4.2)).bind fun v5 =>
 (spec_l01Byte (v0.1.1, v5.2)).bind fun v6 =>
 let v7 : Int := wrap .i64 (v3.1 * 16777216)
 let v8 : Int := wrap .i64 (v4.1 * 65536)
 let v9 : Int := wrap .i64 (v7 + v8)
 let v10 : Int := wrap .i64 (v5.1 * 256)
 let v11 : Int := wrap .i64 (v9 + v10)
 let v12 : Int := wrap .i64 (v11 + v6.1)
 (grem v12 v0.2).bind fun v13 =>
 some (v13, v6.2)
noncomputable def spec_l36Graph (v0 : (List Int × (Int × Int))) : Option ((Int × List (Int × (Int × Int))) × (Int × Int)) :=
 (spec_l01Below (v0, 8)).bind fun v1 =>
 let v2 : Int := wrap .i64 (2 + v1.1)
 (spec_l01Below ((v0.1, v1.2), 16)).bind fun v3 =>
 Pu.loop (fun (v4 : (Int × (Int × (Int × List (Int × (Int × Int)))))) =>
  let v5 : Bool := decide (0 < v4.1)
  bif v5 then (
   let v6 : Int := wrap .i64 (v2 - 1)
   (spec_l01Below ((v0.1, (v4.2.1, v4.2.2.1)), v6)).bind fun v7 =>
   let v8 : Int := wrap .i64 (1 + v7.1)
   (spec_l01Below ((v0.1, v7.2), v8)).bind fun v9 =>
   (spec_l01Below ((v0.1, v9.2), 12)).bind fun v10 =>
   let v11 : List (Int × (Int × Int)) := [(v9.1, (v8, v10.1))]
   (gapp 24 v4.2.2.2 v11).bind fun v12 =>
   let v13 : Int := wrap .i64 (v4.1 - 1)
   some (.inl (v13, (v10.2.1, (v10.2.2, v12))))) else
  Option.map Sum.inr (
   some ((v2, v4.2.2.2), (v4.2.1, v4.2.2.1)))) (v3.1, (v3.2.1, (v3.2.2, ([] : List (Int × (Int × Int))))))
noncomputable def spec_DrawGraph (v0 : List Int) : Option ((Int × List (Int × (Int × Int))) × (List (Int × Int) × (List (Int × Int) × List (Int × (Int × Int))))) :=
 (spec_l01New v0).bind fun v1 =>
 (spec_l36Graph (v0, v1)).bind fun v2 =>
 (spec_l01Below ((v0, v2.2), 3)).bind fun v3 =>
 let v4 : Int := wrap .i64 (1 + v3.1)
 Pu.loop (fun (v5 : (Int × (Int × (Int × (List (Int × Int) × (List (Int × Int) × List (Int × (Int × Int)))))))) =>
  let v6 : Bool := decide (0 < v5.1)
  bif v6 then (
   (spec_l01Below ((v0, (v5.2.1, v5.2.2.1)), v2.1.1)).bind fun v7 =>
   (spec_l01Below ((v0, v7.2), 9)).bind fun v8 =>
   let v9 : List (Int × Int) := [(v7.1, v8.1)]
   (gapp 16 v5.2.2.2.1 v9).bind fun v10 =>
   (spec_l01Below ((v0, v8.2), v2.1.1)).bind fun v11 =>
   (spec_l01Below ((v0, v11.2), 9)).bind fun v12 =>
   let v13 : List (Int × Int) := [(v11.1, v12.1)]
   (gapp 16 v5.2.2.2.2.1 v13).bind fun v14 =>
   (spec_l01Below ((v0, v12.2), 4)).bind fun v15 =>
   (spec_l01Below ((v0, v15.2), 4)).bind fun v16 =>
   (spec_l01Below ((v0, v16.2), 4)).bind fun v17 =>
   let v18 : List (Int × (Int × Int)) := [(v15.1, (v16.1, v17.1))]
   (gapp 24 v5.2.2.2.2.2 v18).bind fun v19 =>
   let v20 : Int := wrap .i64 (v5.1 - 1)
   some (.inl (v20, (v17.2.1, (v17.2.2, (v10, (v14, v19))))))) else
  Option.map Sum.inr (
   some (v2.1, v5.2.2.2))) (v4, (v3.2.1, (v3.2.2, (([] : List (Int × Int)), (([] : List (Int × Int)), ([] : List (Int × (Int × Int))))))))
noncomputable def laws_FnLongest (v0 : List Int) : Option Bool :=
 (laws_big v0).bind fun v1 =>
 bif v1 then (
  some true) else
 (spec_DrawGraph v0).bind fun v2 =>
 (gin (v2.2.1).length 0).bind fun _ =>
 (gget (0, 0) v2.2.1 0).bind fun v4 =>
 (impl_LongestDelays (v2.1, v4.1)).bind fun v5 =>
 (impl_ShortestDelays (v2.1, v4.1)).bind fun v6 =>
 let v7 : Int := ((v5).length : Int)
 let v8 : Bool := decide (v7 ≠ v2.1.1)
 bif v8 then (
  some false) else
 let v9 : Int := ((v6).length : Int)
 let v10 : Bool := decide (v9 ≠ v2.1.1)
 bif v10 then (
  some false) else
 (gin (v5).length v4.1).bind fun _ =>
 (gget 0 v5 v4.1).bind fun v12 =>
 let v13 : Bool := decide (v12 < 0)
 bif v13 then (
  some false) else
 (gmake 1 (false : Bool) v2.1.1).bind fun v14 =>
 (gin (v5).length v4.1).bind fun _ =>
 (gget 0 v5 v4.1).bind fun v16 =>
 let v17 : Bool := decide (v16 = 0)
 (gin (v14).length v4.1).bind fun _ =>
 (gget false v14 v4.1).bind fun v19 =>
 let v20 : Bool := v17
 let v21 : List Bool := gset v14 v4.1 v20
 Pu.loop (fun (v22 : (Int × List Bool)) =>
  let v23 : Int := ((v2.1.2).length : Int)
  let v24 : Bool := decide (v22.1 < v23)
  bif v24 then (
   (gin (v2.1.2).length v22.1).bind fun _ =>
   (gget (0, (0, 0)) v2.1.2 v22.1).bind fun v26 =>
   (gin (v5).length v26.1).bind fun _ =>
   (gget 0 v5 v26.1).bind fun v28 =>
   let v29 : Bool := decide (v28 < 0)
   bif v29 then (
    let v30 : Int := wrap .i64 (v22.1 + 1)
    some (.inl (v30, v22.2))) else
   (gin (v5).length v26.2.1).bind fun _ =>
   (gget 0 v5 v26.2.1).bind fun v31 =>
   (gin (v5).length v26.1).bind fun _ =>
   (gget 0 v5 v26.1).bind fun v33 =>
   let v34 : Int := wrap .i64 (v33 + v26.2.2)
   let v35 : Bool := decide (v31 < v34)
   bif v35 then (
    Option.map Sum.inr (
     some false)) else
   (gin (v6).length v26.2.1).bind fun _ =>
   (gget 0 v6 v26.2.1).bind fun v37 =>
   (gin (v6).length v26.1).bind fun _ =>
   (gget 0 v6 v26.1).bind fun v39 =>
   let v40 : Int := wrap .i64 (v39 + v26.2.2)
   let v41 : Bool := decide (v40 < v37)
   bif v41 then (
    Option.map Sum.inr (
     some false)) else
   (gin (v22.2).length v26.2.1).bind fun _ =>
   (gget false v22.2 v26.2.1).bind fun v43 =>
   bif v43 then (
    (gin (v22.2).length v26.2.1).bind fun _ =>
    (gget false v22.2 v26.2.1).bind fun v45 =>
    let v46 : Bool := true
    let v47 : List Bool := gset v22.2 v26.2.1 v46
    let v48 : Int := wrap .i64 (v22.1 + 1)
    some (.inl (v48, v47))) else
   (gin (v5).length v26.2.1).bind fun _ =>
   (gget 0 v5 v26.2.1).bind fun v45 =>
   (gin (v5).length v26.1).bind fun _ =>
   (gget 0 v5 v26.1).bind fun v47 =>
   let v48 : Int := wrap .i64 (v47 + v26.2.2)
   let v49 : Bool := decide (v45 = v48)
   (gin (v22.2).length v26.2.1).bind fun _ =>
   (gget false v22.2 v26.2.1).bind fun v51 =>
   let v52 : Bool := v49
   let v53 : List Bool := gset v22.2 v26.2.1 v52
   let v54 : Int := wrap .i64 (v22.1 + 1)
   some (.inl (v54, v53))) else
  Option.map Sum.inr (
   Pu.loop (fun (v25 : Int) =>
    let v26 : Bool := decide (v25 < v2.1.1)
    bif v26 then (
     (gin (v5).length v25).bind fun _ =>
     (gget 0 v5 v25).bind fun v28 =>
     let v29 : Bool := decide (v28 < 0)
     (gin (v6).length v25).bind fun _ =>
     (gget 0 v6 v25).bind fun v31 =>
     let v32 : Bool := decide (v31 < 0)
     let v33 : Bool := (true ^^ (v29 == v32))
     bif v33 then (
      Option.map Sum.inr (
       some false)) else
     (gin (v5).length v25).bind fun _ =>
     (gget 0 v5 v25).bind fun v35 =>
     (gin (v6).length v25).bind fun _ =>
     (gget 0 v6 v25).bind fun v37 =>
     let v38 : Bool := decide (v35 < v37)
     bif v38 then (
      Option.map Sum.inr (
       some false)) else
     (gin (v5).length v25).bind fun _ =>
     (gget 0 v5 v25).bind fun v40 =>
     let v41 : Bool := decide (0 ≤ v40)
     bif v41 then (
      (gin (v22.2).length v25).bind fun _ =>
      (gget false v22.2 v25).bind fun v43 =>
      let v44 : Bool := !v43
      bif v44 then (
       Option.map Sum.inr (
        some false)) else
      let v45 : Int := wrap .i64 (v25 + 1)
      some (.inl v45)) else
     let v42 : Int := wrap .i64 (v25 + 1)
     some (.inl v42)) else
    Option.map Sum.inr (
     (impl_TimingOk v2.1).bind fun v27 =>
     bif v27 then (
      (impl_PointsOk (v2.1, v2.2.1)).bind fun v28 =>
      some v28) else
     some false)) 0)) (0, v21)
end Go.Pf
