/-
  Own work, printed by my tool: the readable functions.
-/
import Derived.Test.YtjpkedhcbnklmaaPu2
namespace Go.Pf
open Go Go.Pu
set_option linter.unusedVariables false
noncomputable def laws_eqIntS (v0 : (List Int × List Int)) : Option Bool :=
 let v1 : Int := ((v0.1).length : Int)
 let v2 : Int := ((v0.2).length : Int)
 let v3 : Bool := decide (v1 ≠ v2)
 bif v3 then (
  some false) else
 Pu.loop (fun (v4 : Int) =>
  let v5 : Int := ((v0.1).length : Int)
  let v6 : Bool := decide (v4 < v5)
  bif v6 then (
   (gget 0 v0.1 v4).bind fun v7 =>
   (gget 0 v0.2 v4).bind fun v8 =>
   let v9 : Bool := decide (v7 ≠ v8)
   bif v9 then (
    Option.map Sum.inr (
     some false)) else
   let v10 : Int := wrap .i64 (v4 + 1)
   some (.inl v10)) else
  Option.map Sum.inr (
   some true)) 0
noncomputable def laws_markIntS (v0 : (List Int × Int)) : Option (Int × List Int) :=
 Pu.loop (fun (v1 : (Int × (Int × List Int))) =>
  let v2 : Int := ((v1.2.2).length : Int)
  let v3 : Bool := decide (v1.2.1 < v2)
  bif v3 then (
   (gin (v1.2.2).length v1.2.1).bind fun _ =>
   (gget 0 v1.2.2 v1.2.1).bind fun v5 =>
   let v6 : Int := v1.1
   let v7 : List Int := gset v1.2.2 v1.2.1 v6
   let v8 : Int := wrap .i64 (v1.1 + 1)
   let v9 : Int := wrap .i64 (v1.2.1 + 1)
   some (.inl (v8, (v9, v7)))) else
  Option.map Sum.inr (
   some (v1.1, v1.2.2))) (v0.2, (0, v0.1))
noncomputable def laws_toIntS (v0 : List Int) : Option (List Int) :=
 let v1 : Int := ((v0).length : Int)
 (gmake 8 (0 : Int) v1).bind fun v2 =>
 Pu.loop (fun (v3 : (Int × List Int)) =>
  let v4 : Int := ((v0).length : Int)
  let v5 : Bool := decide (v3.1 < v4)
  bif v5 then (
   (gget 0 v0 v3.1).bind fun v6 =>
   (gin (v3.2).length v3.1).bind fun _ =>
   (gget 0 v3.2 v3.1).bind fun v8 =>
   let v9 : Int := v6
   let v10 : List Int := gset v3.2 v3.1 v9
   let v11 : Int := wrap .i64 (v3.1 + 1)
   some (.inl (v11, v10))) else
  Option.map Sum.inr (
   some v3.2)) (0, v2)
noncomputable def laws_markPinS (v0 : (List (Int × Int) × Int)) : Option (Int × List (Int × Int)) :=
 Pu.loop (fun (v1 : (Int × (Int × List (Int × Int)))) =>
  let v2 : Int := ((v1.2.2).length : Int)
  let v3 : Bool := decide (v1.2.1 < v2)
  bif v3 then (
   (gin (v1.2.2).length v1.2.1).bind fun _ =>
   (gget (0, 0) v1.2.2 v1.2.1).bind fun v5 =>
   let v6 : (Int × Int) := (v1.1, v5.2)
   let v7 : List (Int × Int) := gset v1.2.2 v1.2.1 v6
   let v8 : Int := wrap .i64 (v1.1 + 1)
   (gin (v7).length v1.2.1).bind fun _ =>
   (gget (0, 0) v7 v1.2.1).bind fun v10 =>
   let v11 : (Int × Int) := (v10.1, v8)
   let v12 : List (Int × Int) := gset v7 v1.2.1 v11
   let v13 : Int := wrap .i64 (v8 + 1)
   let v14 : Int := wrap .i64 (v1.2.1 + 1)
   some (.inl (v13, (v14, v12)))) else
  Option.map Sum.inr (
   some (v1.1, v1.2.2))) (v0.2, (0, v0.1))
noncomputable def laws_heldPinS (v0 : (List (Int × Int) × Int)) : Option Int :=
 Pu.loop (fun (v1 : (Int × Int)) =>
  let v2 : Int := ((v0.1).length : Int)
  let v3 : Bool := decide (v1.2 < v2)
  bif v3 then (
   (gget (0, 0) v0.1 v1.2).bind fun v4 =>
   let v5 : Bool := decide (v4.1 ≠ v1.1)
   bif v5 then (
    Option.map Sum.inr (
     some (-1))) else
   let v6 : Int := wrap .i64 (v1.1 + 1)
   (gget (0, 0) v0.1 v1.2).bind fun v7 =>
   let v8 : Bool := decide (v7.2 ≠ v6)
   bif v8 then (
    Option.map Sum.inr (
     some (-1))) else
   let v9 : Int := wrap .i64 (v6 + 1)
   let v10 : Int := wrap .i64 (v1.2 + 1)
   some (.inl (v9, v10))) else
  Option.map Sum.inr (
   some v1.1)) (v0.2, 0)
noncomputable def laws_szIntS (v0 : (List Int × Int)) : Option Int :=
 let v1 : Int := ((v0.1).length : Int)
 let v2 : Int := wrap .i64 (v0.2 - v1)
 let v3 : Bool := decide (v2 < 0)
 bif v3 then (
  some (-1)) else
 some v2
noncomputable def impl_inRange (v0 : (Int × (Int × Int))) : Option Bool :=
 let v1 : Bool := decide (v0.2.1 ≤ v0.1)
 bif v1 then (
  let v2 : Bool := decide (v0.1 ≤ v0.2.2)
  some v2) else
 some false
noncomputable def impl_hasInt (v0 : (List Int × Int)) : Option Bool :=
 let v1 : Int := ((v0.1).length : Int)
 Pu.loop (fun (v2 : Int) =>
  let v3 : Bool := decide (v2 < v1)
  bif v3 then (
   (gget 0 v0.1 v2).bind fun v4 =>
   let v5 : Bool := decide (v4 = v0.2)
   bif v5 then (
    Option.map Sum.inr (
     some true)) else
   let v6 : Int := wrap .i64 (v2 + 1)
   some (.inl v6)) else
  Option.map Sum.inr (
   some false)) 0
noncomputable def spec_l01In (v0 : (Int × (Int × Int))) : Option Bool :=
 let v1 : Bool := decide (v0.2.1 ≤ v0.1)
 bif v1 then (
  let v2 : Bool := decide (v0.1 ≤ v0.2.2)
  some v2) else
 some false
noncomputable def spec_l13Has (v0 : (List Int × Int)) : Option Bool :=
 Pu.loop (fun (v1 : Int) =>
  let v2 : Int := ((v0.1).length : Int)
  let v3 : Bool := decide (v1 < v2)
  bif v3 then (
   (gget 0 v0.1 v1).bind fun v4 =>
   let v5 : Bool := decide (v4 = v0.2)
   bif v5 then (
    Option.map Sum.inr (
     some true)) else
   let v6 : Int := wrap .i64 (v1 + 1)
   some (.inl v6)) else
  Option.map Sum.inr (
   some false)) 0
noncomputable def laws_eqPin (v0 : ((Int × Int) × (Int × Int))) : Option Bool :=
 let v1 : Bool := decide (v0.1.1 ≠ v0.2.1)
 bif v1 then (
  some false) else
 let v2 : Bool := decide (v0.1.2 ≠ v0.2.2)
 bif v2 then (
  some false) else
 some true
noncomputable def impl_copyInts (v0 : List Int) : Option (List Int) :=
 (gapp 8 ([] : List Int) v0).bind fun v1 =>
 some v1
noncomputable def laws_eqPinS (v0 : (List (Int × Int) × List (Int × Int))) : Option Bool :=
 let v1 : Int := ((v0.1).length : Int)
 let v2 : Int := ((v0.2).length : Int)
 let v3 : Bool := decide (v1 ≠ v2)
 bif v3 then (
  some false) else
 Pu.loop (fun (v4 : Int) =>
  let v5 : Int := ((v0.1).length : Int)
  let v6 : Bool := decide (v4 < v5)
  bif v6 then (
   (gget (0, 0) v0.1 v4).bind fun v7 =>
   (gget (0, 0) v0.2 v4).bind fun v8 =>
   (laws_eqPin (v7, v8)).bind fun v9 =>
   let v10 : Bool := !v9
   bif v10 then (
    Option.map Sum.inr (
     some false)) else
   let v11 : Int := wrap .i64 (v4 + 1)
   some (.inl v11)) else
  Option.map Sum.inr (
   some true)) 0
noncomputable def laws_markConnS (v0 : (List (Int × ((Int × Int) × List (Int × Int))) × Int)) : Option (Int × List (Int × ((Int × Int) × List (Int × Int)))) :=
 Pu.loop (fun (v1 : (Int × (Int × List (Int × ((Int × Int) × List (Int × Int)))))) =>
  let v2 : Int := ((v1.2.2).length : Int)
  let v3 : Bool := decide (v1.2.1 < v2)
  bif v3 then (
   (gin (v1.2.2).length v1.2.1).bind fun _ =>
   (gget (0, ((0, 0), [])) v1.2.2 v1.2.1).bind fun v5 =>
   let v6 : (Int × ((Int × Int) × List (Int × Int))) := (v1.1, v5.2)
   let v7 : List (Int × ((Int × Int) × List (Int × Int))) := gset v1.2.2 v1.2.1 v6
   let v8 : Int := wrap .i64 (v1.1 + 1)
   (gin (v7).length v1.2.1).bind fun _ =>
   (gget (0, ((0, 0), [])) v7 v1.2.1).bind fun v10 =>
   let v11 : (Int × ((Int × Int) × List (Int × Int))) := (v10.1, ((v8, v10.2.1.2), v10.2.2))
   let v12 : List (Int × ((Int × Int) × List (Int × Int))) := gset v7 v1.2.1 v11
   let v13 : Int := wrap .i64 (v8 + 1)
   (gin (v12).length v1.2.1).bind fun _ =>
   (gget (0, ((0, 0), [])) v12 v1.2.1).bind fun v15 =>
   let v16 : (Int × ((Int × Int) × List (Int × Int))) := (v15.1, ((v15.2.1.1, v13), v15.2.2))
   let v17 : List (Int × ((Int × Int) × List (Int × Int))) := gset v12 v1.2.1 v16
   let v18 : Int := wrap .i64 (v13 + 1)
   (gin (v17).length v1.2.1).bind fun _ =>
   (gget (0, ((0, 0), [])) v17 v1.2.1).bind fun v20 =>
   (gget (0, ((0, 0), [])) v17 v1.2.1).bind fun v21 =>
   (laws_markPinS (v21.2.2, v18)).bind fun v22 =>
   (gget (0, ((0, 0), [])) v17 v1.2.1).bind fun v23 =>
   let v24 : (Int × ((Int × Int) × List (Int × Int))) := (v23.1, (v23.2.1, v22.2))
   let v25 : List (Int × ((Int × Int) × List (Int × Int))) := gset v17 v1.2.1 v24
   let v26 : Int := wrap .i64 (v1.2.1 + 1)
   some (.inl (v22.1, (v26, v25)))) else
  Option.map Sum.inr (
   some (v1.1, v1.2.2))) (v0.2, (0, v0.1))
noncomputable def laws_eqConn (v0 : ((Int × ((Int × Int) × List (Int × Int))) × (Int × ((Int × Int) × List (Int × Int))))) : Option Bool :=
 let v1 : Bool := decide (v0.1.1 ≠ v0.2.1)
 bif v1 then (
  some false) else
 (laws_eqPin (v0.1.2.1, v0.2.2.1)).bind fun v2 =>
 let v3 : Bool := !v2
 bif v3 then (
  some false) else
 (laws_eqPinS (v0.1.2.2, v0.2.2.2)).bind fun v4 =>
 let v5 : Bool := !v4
 bif v5 then (
  some false) else
 some true
noncomputable def laws_eqConnS (v0 : (List (Int × ((Int × Int) × List (Int × Int))) × List (Int × ((Int × Int) × List (Int × Int))))) : Option Bool :=
 let v1 : Int := ((v0.1).length : Int)
 let v2 : Int := ((v0.2).length : Int)
 let v3 : Bool := decide (v1 ≠ v2)
 bif v3 then (
  some false) else
 Pu.loop (fun (v4 : Int) =>
  let v5 : Int := ((v0.1).length : Int)
  let v6 : Bool := decide (v4 < v5)
  bif v6 then (
   (gget (0, ((0, 0), [])) v0.1 v4).bind fun v7 =>
   (gget (0, ((0, 0), [])) v0.2 v4).bind fun v8 =>
   (laws_eqConn (v7, v8)).bind fun v9 =>
   let v10 : Bool := !v9
   bif v10 then (
    Option.map Sum.inr (
     some false)) else
   let v11 : Int := wrap .i64 (v4 + 1)
   some (.inl v11)) else
  Option.map Sum.inr (
   some true)) 0
noncomputable def spec_l27Sort (v0 : List Int) : Option (List Int) :=
 (gapp 8 ([] : List Int) v0).bind fun v1 =>
 Pu.loop (fun (v2 : (Int × List Int)) =>
  let v3 : Int := ((v2.2).length : Int)
  let v4 : Bool := decide (v2.1 < v3)
  bif v4 then (
   joinO (
    Pu.loop (fun (v5 : (Int × List Int)) =>
     let v6 : Bool := decide (0 < v5.1)
     bif v6 then (
      (gin (v5.2).length v5.1).bind fun _ =>
      (gget 0 v5.2 v5.1).bind fun v8 =>
      let v9 : Int := wrap .i64 (v5.1 - 1)
      (gin (v5.2).length v9).bind fun _ =>
      (gget 0 v5.2 v9).bind fun v11 =>
      let v12 : Bool := decide (v8 < v11)
      bif v12 then (
       (gin (v5.2).length v5.1).bind fun _ =>
       (gget 0 v5.2 v5.1).bind fun v14 =>
       let v15 : Int := wrap .i64 (v5.1 - 1)
       (gin (v5.2).length v15).bind fun _ =>
       (gget 0 v5.2 v15).bind fun v17 =>
       (gin (v5.2).length v5.1).bind fun _ =>
       (gget 0 v5.2 v5.1).bind fun v19 =>
       let v20 : Int := v17
       let v21 : List Int := gset v5.2 v5.1 v20
       let v22 : Int := wrap .i64 (v5.1 - 1)
       (gin (v21).length v22).bind fun _ =>
       (gget 0 v21 v22).bind fun v24 =>
       let v25 : Int := v14
       let v26 : List Int := gset v21 v22 v25
       let v27 : Int := wrap .i64 (v5.1 - 1)
       some (.inl (v27, v26))) else
      Option.map Sum.inr (
       some (.inl v5.2))) else
     Option.map Sum.inr (
      some (.inl v5.2))) v2) (fun (v5 : List Int) =>
    let v6 : Int := wrap .i64 (v2.1 + 1)
    some (.inl (v6, v5)))) else
  Option.map Sum.inr (
   some v2.2)) (1, v1)
noncomputable def impl_insertInt (v0 : (List Int × Int)) : Option (List Int) :=
 joinO (
  Pu.loop (fun (v1 : Int) =>
   let v2 : Int := ((v0.1).length : Int)
   let v3 : Bool := decide (v1 < v2)
   bif v3 then (
    (gin (v0.1).length v1).bind fun _ =>
    (gget 0 v0.1 v1).bind fun v5 =>
    let v6 : Bool := decide (v5 < v0.2)
    bif v6 then (
     let v7 : Int := wrap .i64 (v1 + 1)
     some (.inl v7)) else
    Option.map Sum.inr (
     some (.inl v1))) else
   Option.map Sum.inr (
    some (.inl v1))) 0) (fun (v1 : Int) =>
  let v2 : Int := ((v0.1).length : Int)
  let v3 : Bool := decide (v1 < v2)
  bif v3 then (
   (gin (v0.1).length v1).bind fun _ =>
   (gget 0 v0.1 v1).bind fun v5 =>
   let v6 : Bool := decide (v5 = v0.2)
   bif v6 then (
    some v0.1) else
   (gslice v0.1 0 v1).bind fun v7 =>
   (gapp 8 ([] : List Int) v7).bind fun v8 =>
   let v9 : List Int := [v0.2]
   (gapp 8 v8 v9).bind fun v10 =>
   (gslice v0.1 v1 ((v0.1).length : Int)).bind fun v11 =>
   (gapp 8 v10 v11).bind fun v12 =>
   some v12) else
  (gslice v0.1 0 v1).bind fun v4 =>
  (gapp 8 ([] : List Int) v4).bind fun v5 =>
  let v6 : List Int := [v0.2]
  (gapp 8 v5 v6).bind fun v7 =>
  (gslice v0.1 v1 ((v0.1).length : Int)).bind fun v8 =>
  (gapp 8 v7 v8).bind fun v9 =>
  some v9)
noncomputable def laws_toLe (v0 : (Int × Int)) : Option (Int × Int) :=
 some v0
noncomputable def impl_lutNodes (v0 : (Int × (List (Int × (Int × List Int)) × (List (List Int × Int) × List Int)))) : Option Int :=
 let v1 : Int := wrap .i64 (1 + v0.1)
 let v2 : Int := ((v0.2.1).length : Int)
 let v3 : Int := wrap .i64 (v1 + v2)
 let v4 : Int := ((v0.2.2.1).length : Int)
 let v5 : Int := wrap .i64 (v3 + v4)
 some v5
noncomputable def laws_szLeS (v0 : (List (Int × Int) × Int)) : Option Int :=
 let v1 : Int := ((v0.1).length : Int)
 let v2 : Int := wrap .i64 (v0.2 - v1)
 let v3 : Bool := decide (v2 < 0)
 bif v3 then (
  some (-1)) else
 some v2
noncomputable def laws_markLeS (v0 : (List (Int × Int) × Int)) : Option (Int × List (Int × Int)) :=
 Pu.loop (fun (v1 : (Int × (Int × List (Int × Int)))) =>
  let v2 : Int := ((v1.2.2).length : Int)
  let v3 : Bool := decide (v1.2.1 < v2)
  bif v3 then (
   (gin (v1.2.2).length v1.2.1).bind fun _ =>
   (gget (0, 0) v1.2.2 v1.2.1).bind fun v5 =>
   let v6 : (Int × Int) := (v1.1, v5.2)
   let v7 : List (Int × Int) := gset v1.2.2 v1.2.1 v6
   let v8 : Int := wrap .i64 (v1.1 + 1)
   (gin (v7).length v1.2.1).bind fun _ =>
   (gget (0, 0) v7 v1.2.1).bind fun v10 =>
   let v11 : (Int × Int) := (v10.1, v8)
   let v12 : List (Int × Int) := gset v7 v1.2.1 v11
   let v13 : Int := wrap .i64 (v8 + 1)
   let v14 : Int := wrap .i64 (v1.2.1 + 1)
   some (.inl (v13, (v14, v12)))) else
  Option.map Sum.inr (
   some (v1.1, v1.2.2))) (v0.2, (0, v0.1))
noncomputable def spec_l20Below (v0 : (List Int × Int)) : Option Bool :=
 Pu.loop (fun (v1 : Int) =>
  let v2 : Int := ((v0.1).length : Int)
  let v3 : Bool := decide (v1 < v2)
  bif v3 then (
   (gget 0 v0.1 v1).bind fun v4 =>
   let v5 : Bool := decide (v4 < 0)
   bif v5 then (
    Option.map Sum.inr (
     some false)) else
   (gget 0 v0.1 v1).bind fun v6 =>
   let v7 : Bool := decide (v0.2 ≤ v6)
   bif v7 then (
    Option.map Sum.inr (
     some false)) else
   let v8 : Int := wrap .i64 (v1 + 1)
   some (.inl v8)) else
  Option.map Sum.inr (
   some true)) 0
noncomputable def spec_l20First (v0 : (Int × (List (Int × (Int × List Int)) × (List (List Int × Int) × List Int)))) : Option Int :=
 let v1 : Int := wrap .i64 (1 + v0.1)
 let v2 : Int := ((v0.2.1).length : Int)
 let v3 : Int := wrap .i64 (v1 + v2)
 some v3
noncomputable def impl_firstLut (v0 : (Int × (List (Int × (Int × List Int)) × (List (List Int × Int) × List Int)))) : Option Int :=
 let v1 : Int := wrap .i64 (1 + v0.1)
 let v2 : Int := ((v0.2.1).length : Int)
 let v3 : Int := wrap .i64 (v1 + v2)
 some v3
noncomputable def laws_eqLe (v0 : ((Int × Int) × (Int × Int))) : Option Bool :=
 let v1 : Bool := decide (v0.1.1 ≠ v0.2.1)
 bif v1 then (
  some false) else
 let v2 : Bool := decide (v0.1.2 ≠ v0.2.2)
 bif v2 then (
  some false) else
 some true
noncomputable def spec_l02Full (v0 : Int) : Option Int :=
 (gshift true .u64 1 v0).bind fun v1 =>
 (gshift true .i64 1 v1).bind fun v2 =>
 let v3 : Int := wrap .i64 (v2 - 1)
 some v3
noncomputable def laws_szBlock (v0 : ((Int × (Int × List (Int × Int))) × Int)) : Option Int :=
 (laws_szLeS (v0.1.2.2, v0.2)).bind fun v1 =>
 let v2 : Bool := decide (v1 < 0)
 bif v2 then (
  some (-1)) else
 some v1
noncomputable def spec_LutNodes (v0 : (Int × (List (Int × (Int × List Int)) × (List (List Int × Int) × List Int)))) : Option Int :=
 (spec_l01In (v0.1, (0, 20))).bind fun v1 =>
 let v2 : Bool := !v1
 bif v2 then (
  some 0) else
 let v3 : Int := ((v0.2.1).length : Int)
 let v4 : Bool := decide (12 < v3)
 bif v4 then (
  some 0) else
 let v5 : Int := ((v0.2.2.1).length : Int)
 let v6 : Bool := decide (400 < v5)
 bif v6 then (
  some 0) else
 let v7 : Int := ((v0.2.2.2).length : Int)
 let v8 : Bool := decide (16 < v7)
 bif v8 then (
  some 0) else
 let v9 : Int := wrap .i64 (1 + v0.1)
 let v10 : Int := ((v0.2.1).length : Int)
 let v11 : Int := wrap .i64 (v9 + v10)
 let v12 : Int := ((v0.2.2.1).length : Int)
 let v13 : Int := wrap .i64 (v11 + v12)
 some v13
noncomputable def impl_useCounts (v0 : (Int × (List (Int × (Int × List Int)) × (List (List Int × Int) × List Int)))) : Option (List Int) :=
 (impl_lutNodes v0).bind fun v1 =>
 (gmake 8 (0 : Int) v1).bind fun v2 =>
 let v3 : Int := ((v0.2.2.1).length : Int)
 Pu.loop (fun (v4 : (Int × List Int)) =>
  let v5 : Bool := decide (v4.1 < v3)
  bif v5 then (
   (gget ([], 0) v0.2.2.1 v4.1).bind fun v6 =>
   let v7 : Int := ((v6.1).length : Int)
   Pu.loop (fun (v8 : (Int × List Int)) =>
    let v9 : Bool := decide (v8.1 < v7)
    bif v9 then (
     (gget 0 v6.1 v8.1).bind fun v10 =>
     (gin (v8.2).length v10).bind fun _ =>
     (gget 0 v8.2 v10).bind fun v12 =>
     let v13 : Int := wrap .i64 (v12 + 1)
     (gin (v8.2).length v10).bind fun _ =>
     (gget 0 v8.2 v10).bind fun v15 =>
     let v16 : Int := v13
     let v17 : List Int := gset v8.2 v10 v16
     let v18 : Int := wrap .i64 (v8.1 + 1)
     some (.inl (v18, v17))) else
    Option.map Sum.inr (
     let v10 : Int := wrap .i64 (v4.1 + 1)
     some (.inl (v10, v8.2)))) (0, v4.2)) else
  Option.map Sum.inr (
   let v6 : Int := ((v0.2.1).length : Int)
   Pu.loop (fun (v7 : (Int × List Int)) =>
    let v8 : Bool := decide (v7.1 < v6)
    bif v8 then (
     (gget (0, (0, [])) v0.2.1 v7.1).bind fun v9 =>
     let v10 : Int := ((v9.2.2).length : Int)
     Pu.loop (fun (v11 : (Int × List Int)) =>
      let v12 : Bool := decide (v11.1 < v10)
      bif v12 then (
       (gget 0 v9.2.2 v11.1).bind fun v13 =>
       (gin (v11.2).length v13).bind fun _ =>
       (gget 0 v11.2 v13).bind fun v15 =>
       let v16 : Int := wrap .i64 (v15 + 1)
       (gin (v11.2).length v13).bind fun _ =>
       (gget 0 v11.2 v13).bind fun v18 =>
       let v19 : Int := v16
       let v20 : List Int := gset v11.2 v13 v19
       let v21 : Int := wrap .i64 (v11.1 + 1)
       some (.inl (v21, v20))) else
      Option.map Sum.inr (
       let v13 : Int := wrap .i64 (v7.1 + 1)
       some (.inl (v13, v11.2)))) (0, v7.2)) else
    Option.map Sum.inr (
     let v9 : Int := ((v0.2.2.2).length : Int)
     Pu.loop (fun (v10 : (Int × List Int)) =>
      let v11 : Bool := decide (v10.1 < v9)
      bif v11 then (
       (gget 0 v0.2.2.2 v10.1).bind fun v12 =>
       (gin (v10.2).length v12).bind fun _ =>
       (gget 0 v10.2 v12).bind fun v14 =>
       let v15 : Int := wrap .i64 (v14 + 1)
       (gin (v10.2).length v12).bind fun _ =>
       (gget 0 v10.2 v12).bind fun v17 =>
       let v18 : Int := v15
       let v19 : List Int := gset v10.2 v12 v18
       let v20 : Int := wrap .i64 (v10.1 + 1)
       some (.inl (v20, v19))) else
      Option.map Sum.inr (
       some v10.2)) (0, v7.2))) (0, v4.2))) (0, v2)
noncomputable def spec_l28Out (v0 : ((Int × (List (Int × (Int × List Int)) × (List (List Int × Int) × List Int))) × (Int × Int))) : Option Int :=
 let v1 : Bool := decide (0 ≤ v0.2.2)
 bif v1 then (
  let v2 : Int := wrap .i64 (1 + v0.1.1)
  let v3 : Int := wrap .i64 (v2 + v0.2.2)
  some v3) else
 (spec_l20First v0.1).bind fun v2 =>
 let v3 : Int := wrap .i64 (v2 + v0.2.1)
 some v3
noncomputable def impl_leOutput (v0 : ((Int × (List (Int × (Int × List Int)) × (List (List Int × Int) × List Int))) × (Int × Int))) : Option Int :=
 let v1 : Bool := decide (0 ≤ v0.2.2)
 bif v1 then (
  let v2 : Int := wrap .i64 (1 + v0.1.1)
  let v3 : Int := wrap .i64 (v2 + v0.2.2)
  some v3) else
 (impl_firstLut v0.1).bind fun v2 =>
 let v3 : Int := wrap .i64 (v2 + v0.2.1)
 some v3
noncomputable def impl_leInputs (v0 : ((Int × (List (Int × (Int × List Int)) × (List (List Int × Int) × List Int))) × (Int × Int))) : Option (List Int) :=
 joinO (
  let v1 : Bool := decide (0 ≤ v0.2.1)
  bif v1 then (
   (gget ([], 0) v0.1.2.2.1 v0.2.1).bind fun v2 =>
   some (.inl v2.1)) else
  (gget (0, (0, [])) v0.1.2.1 v0.2.2).bind fun v2 =>
  some (.inl v2.2.2)) (fun (v1 : List Int) =>
  let v2 : Int := ((v1).length : Int)
  Pu.loop (fun (v3 : (List Int × Int)) =>
   let v4 : Bool := decide (v3.2 < v2)
   bif v4 then (
    (gget 0 v1 v3.2).bind fun v5 =>
    let v6 : Bool := decide (v5 ≠ 0)
    bif v6 then (
     (impl_insertInt (v3.1, v5)).bind fun v7 =>
     let v8 : Int := wrap .i64 (v3.2 + 1)
     some (.inl (v7, v8))) else
    let v7 : Int := wrap .i64 (v3.2 + 1)
    some (.inl (v3.1, v7))) else
   Option.map Sum.inr (
    some v3.1)) (([] : List Int), 0))
noncomputable def laws_markSeqS (v0 : (List (Int × (Int × List Int)) × Int)) : Option (Int × List (Int × (Int × List Int))) :=
 Pu.loop (fun (v1 : (Int × (Int × List (Int × (Int × List Int))))) =>
  let v2 : Int := ((v1.2.2).length : Int)
  let v3 : Bool := decide (v1.2.1 < v2)
  bif v3 then (
   (gin (v1.2.2).length v1.2.1).bind fun _ =>
   (gget (0, (0, [])) v1.2.2 v1.2.1).bind fun v5 =>
   let v6 : (Int × (Int × List Int)) := (v1.1, v5.2)
   let v7 : List (Int × (Int × List Int)) := gset v1.2.2 v1.2.1 v6
   let v8 : Int := wrap .i64 (v1.1 + 1)
   (gin (v7).length v1.2.1).bind fun _ =>
   (gget (0, (0, [])) v7 v1.2.1).bind fun v10 =>
   let v11 : (Int × (Int × List Int)) := (v10.1, (v8, v10.2.2))
   let v12 : List (Int × (Int × List Int)) := gset v7 v1.2.1 v11
   let v13 : Int := wrap .i64 (v8 + 1)
   (gin (v12).length v1.2.1).bind fun _ =>
   (gget (0, (0, [])) v12 v1.2.1).bind fun v15 =>
   (gget (0, (0, [])) v12 v1.2.1).bind fun v16 =>
   (laws_markIntS (v16.2.2, v13)).bind fun v17 =>
   (gget (0, (0, [])) v12 v1.2.1).bind fun v18 =>
   let v19 : (Int × (Int × List Int)) := (v18.1, (v18.2.1, v17.2))
   let v20 : List (Int × (Int × List Int)) := gset v12 v1.2.1 v19
   let v21 : Int := wrap .i64 (v1.2.1 + 1)
   some (.inl (v17.1, (v21, v20)))) else
  Option.map Sum.inr (
   some (v1.1, v1.2.2))) (v0.2, (0, v0.1))
noncomputable def laws_markLutS (v0 : (List (List Int × Int) × Int)) : Option (Int × List (List Int × Int)) :=
 Pu.loop (fun (v1 : (Int × (Int × List (List Int × Int)))) =>
  let v2 : Int := ((v1.2.2).length : Int)
  let v3 : Bool := decide (v1.2.1 < v2)
  bif v3 then (
   (gin (v1.2.2).length v1.2.1).bind fun _ =>
   (gget ([], 0) v1.2.2 v1.2.1).bind fun v5 =>
   (gget ([], 0) v1.2.2 v1.2.1).bind fun v6 =>
   (laws_markIntS (v6.1, v1.1)).bind fun v7 =>
   (gget ([], 0) v1.2.2 v1.2.1).bind fun v8 =>
   let v9 : (List Int × Int) := (v7.2, v8.2)
   let v10 : List (List Int × Int) := gset v1.2.2 v1.2.1 v9
   (gin (v10).length v1.2.1).bind fun _ =>
   (gget ([], 0) v10 v1.2.1).bind fun v12 =>
   let v13 : (List Int × Int) := (v12.1, v7.1)
   let v14 : List (List Int × Int) := gset v10 v1.2.1 v13
   let v15 : Int := wrap .i64 (v7.1 + 1)
   let v16 : Int := wrap .i64 (v1.2.1 + 1)
   some (.inl (v15, (v16, v14)))) else
  Option.map Sum.inr (
   some (v1.1, v1.2.2))) (v0.2, (0, v0.1))
noncomputable def laws_toLeS (v0 : List (Int × Int)) : Option (List (Int × Int)) :=
 let v1 : Int := ((v0).length : Int)
 (gmake 16 ((0, 0) : (Int × Int)) v1).bind fun v2 =>
 Pu.loop (fun (v3 : (Int × List (Int × Int))) =>
  let v4 : Int := ((v0).length : Int)
  let v5 : Bool := decide (v3.1 < v4)
  bif v5 then (
   (gget (0, 0) v0 v3.1).bind fun v6 =>
   (laws_toLe v6).bind fun v7 =>
   (gin (v3.2).length v3.1).bind fun _ =>
   (gget (0, 0) v3.2 v3.1).bind fun v9 =>
   let v10 : (Int × Int) := v7
   let v11 : List (Int × Int) := gset v3.2 v3.1 v10
   let v12 : Int := wrap .i64 (v3.1 + 1)
   some (.inl (v12, v11))) else
  Option.map Sum.inr (
   some v3.2)) (0, v2)
noncomputable def laws_eqLeS (v0 : (List (Int × Int) × List (Int × Int))) : Option Bool :=
 let v1 : Int := ((v0.1).length : Int)
 let v2 : Int := ((v0.2).length : Int)
 let v3 : Bool := decide (v1 ≠ v2)
 bif v3 then (
  some false) else
 Pu.loop (fun (v4 : Int) =>
  let v5 : Int := ((v0.1).length : Int)
  let v6 : Bool := decide (v4 < v5)
  bif v6 then (
   (gget (0, 0) v0.1 v4).bind fun v7 =>
   (gget (0, 0) v0.2 v4).bind fun v8 =>
   (laws_eqLe (v7, v8)).bind fun v9 =>
   let v10 : Bool := !v9
   bif v10 then (
    Option.map Sum.inr (
     some false)) else
   let v11 : Int := wrap .i64 (v4 + 1)
   some (.inl v11)) else
  Option.map Sum.inr (
   some true)) 0
noncomputable def laws_szSeq (v0 : ((Int × (Int × List Int)) × Int)) : Option Int :=
 (laws_szIntS (v0.1.2.2, v0.2)).bind fun v1 =>
 let v2 : Bool := decide (v1 < 0)
 bif v2 then (
  some (-1)) else
 some v1
noncomputable def laws_szLut (v0 : ((List Int × Int) × Int)) : Option Int :=
 (laws_szIntS (v0.1.1, v0.2)).bind fun v1 =>
 let v2 : Bool := decide (v1 < 0)
 bif v2 then (
  some (-1)) else
 some v1
noncomputable def spec_TableOk (v0 : (Int × Int)) : Option Bool :=
 (spec_l01In (v0.1, (0, 4))).bind fun v1 =>
 bif v1 then (
  let v2 : Bool := decide (0 ≤ v0.2)
  bif v2 then (
   (spec_l02Full v0.1).bind fun v3 =>
   let v4 : Bool := decide (v0.2 ≤ v3)
   some v4) else
  some false) else
 some false
noncomputable def laws_toSeq (v0 : (Int × (Int × List Int))) : Option (Int × (Int × List Int)) :=
 (laws_toIntS v0.2.2).bind fun v1 =>
 some (v0.1, (v0.2.1, v1))
noncomputable def laws_toLut (v0 : (List Int × Int)) : Option (List Int × Int) :=
 (laws_toIntS v0.1).bind fun v1 =>
 some (v1, v0.2)
noncomputable def impl_LutNodes (v0 : (Int × (List (Int × (Int × List Int)) × (List (List Int × Int) × List Int)))) : Option Int :=
 (impl_inRange (v0.1, (0, 20))).bind fun v1 =>
 let v2 : Bool := !v1
 bif v2 then (
  some 0) else
 let v3 : Int := ((v0.2.1).length : Int)
 let v4 : Bool := decide (12 < v3)
 bif v4 then (
  some 0) else
 let v5 : Int := ((v0.2.2.1).length : Int)
 let v6 : Bool := decide (400 < v5)
 bif v6 then (
  some 0) else
 let v7 : Int := ((v0.2.2.2).length : Int)
 let v8 : Bool := decide (16 < v7)
 bif v8 then (
  some 0) else
 (impl_lutNodes v0).bind fun v9 =>
 some v9
noncomputable def impl_nodesBelow (v0 : (List Int × Int)) : Option Bool :=
 let v1 : Int := ((v0.1).length : Int)
 Pu.loop (fun (v2 : Int) =>
  let v3 : Bool := decide (v2 < v1)
  bif v3 then (
   (gget 0 v0.1 v2).bind fun v4 =>
   let v5 : Int := wrap .i64 (v0.2 - 1)
   (impl_inRange (v4, (0, v5))).bind fun v6 =>
   let v7 : Bool := !v6
   bif v7 then (
    Option.map Sum.inr (
     some false)) else
   let v8 : Int := wrap .i64 (v2 + 1)
   some (.inl v8)) else
  Option.map Sum.inr (
   some true)) 0
noncomputable def impl_seqOk (v0 : (Int × (Int × List Int))) : Option Bool :=
 let v1 : Bool := decide (v0.1 = 0)
 bif v1 then (
  (impl_inRange (v0.2.1, (0, 1))).bind fun v2 =>
  bif v2 then (
   let v3 : Int := ((v0.2.2).length : Int)
   let v4 : Bool := decide (v3 = 1)
   some v4) else
  some false) else
 let v2 : Bool := decide (v0.1 = 1)
 bif v2 then (
  (impl_inRange (v0.2.1, (0, 31))).bind fun v3 =>
  bif v3 then (
   let v4 : Int := ((v0.2.2).length : Int)
   let v5 : Bool := decide (v4 = 4)
   some v5) else
  some false) else
 some false
noncomputable def impl_TableOk (v0 : (Int × Int)) : Option Bool :=
 (impl_inRange (v0.1, (0, 4))).bind fun v1 =>
 bif v1 then (
  let v2 : Int := wrap .u64 v0.1
  (gshift true .u64 1 v2).bind fun v3 =>
  (gshift true .i64 1 v3).bind fun v4 =>
  let v5 : Int := wrap .i64 (v4 - 1)
  (impl_inRange (v0.2, (0, v5))).bind fun v6 =>
  some v6) else
 some false
noncomputable def laws_eqSeq (v0 : ((Int × (Int × List Int)) × (Int × (Int × List Int)))) : Option Bool :=
 let v1 : Bool := decide (v0.1.1 ≠ v0.2.1)
 bif v1 then (
  some false) else
 let v2 : Bool := decide (v0.1.2.1 ≠ v0.2.2.1)
 bif v2 then (
  some false) else
 (laws_eqIntS (v0.1.2.2, v0.2.2.2)).bind fun v3 =>
 let v4 : Bool := !v3
 bif v4 then (
  some false) else
 some true
noncomputable def laws_eqLut (v0 : ((List Int × Int) × (List Int × Int))) : Option Bool :=
 (laws_eqIntS (v0.1.1, v0.2.1)).bind fun v1 =>
 let v2 : Bool := !v1
 bif v2 then (
  some false) else
 let v3 : Bool := decide (v0.1.2 ≠ v0.2.2)
 bif v3 then (
  some false) else
 some true
noncomputable def spec_l28Set (v0 : (List Int × List Int)) : Option (List Int) :=
 (spec_l27Sort v0.1).bind fun v1 =>
 Pu.loop (fun (v2 : (Int × List Int)) =>
  let v3 : Int := ((v1).length : Int)
  let v4 : Bool := decide (v2.1 < v3)
  bif v4 then (
   (gin (v1).length v2.1).bind fun _ =>
   (gget 0 v1 v2.1).bind fun v6 =>
   let v7 : Bool := decide (0 < v6)
   bif v7 then (
    (gin (v1).length v2.1).bind fun _ =>
    (gget 0 v1 v2.1).bind fun v9 =>
    (spec_l13Has (v0.2, v9)).bind fun v10 =>
    let v11 : Bool := !v10
    bif v11 then (
     let v12 : Int := ((v2.2).length : Int)
     let v13 : Bool := decide (v12 = 0)
     bif v13 then (
      (gin (v1).length v2.1).bind fun _ =>
      (gget 0 v1 v2.1).bind fun v15 =>
      let v16 : List Int := [v15]
      (gapp 8 v2.2 v16).bind fun v17 =>
      let v18 : Int := wrap .i64 (v2.1 + 1)
      some (.inl (v18, v17))) else
     let v14 : Int := ((v2.2).length : Int)
     let v15 : Int := wrap .i64 (v14 - 1)
     (gin (v2.2).length v15).bind fun _ =>
     (gget 0 v2.2 v15).bind fun v17 =>
     (gin (v1).length v2.1).bind fun _ =>
     (gget 0 v1 v2.1).bind fun v19 =>
     let v20 : Bool := decide (v17 ≠ v19)
     bif v20 then (
      (gin (v1).length v2.1).bind fun _ =>
      (gget 0 v1 v2.1).bind fun v22 =>
      let v23 : List Int := [v22]
      (gapp 8 v2.2 v23).bind fun v24 =>
      let v25 : Int := wrap .i64 (v2.1 + 1)
      some (.inl (v25, v24))) else
     let v21 : Int := wrap .i64 (v2.1 + 1)
     some (.inl (v21, v2.2))) else
    let v12 : Int := wrap .i64 (v2.1 + 1)
    some (.inl (v12, v2.2))) else
   let v8 : Int := wrap .i64 (v2.1 + 1)
   some (.inl (v8, v2.2))) else
  Option.map Sum.inr (
   some v2.2)) (0, ([] : List Int))
noncomputable def laws_markLutNet (v0 : ((Int × (List (Int × (Int × List Int)) × (List (List Int × Int) × List Int))) × Int)) : Option (Int × (List (Int × (Int × List Int)) × (List (List Int × Int) × List Int))) :=
 (laws_markSeqS (v0.1.2.1, v0.2)).bind fun v1 =>
 (laws_markLutS (v0.1.2.2.1, v1.1)).bind fun v2 =>
 (laws_markIntS (v0.1.2.2.2, v2.1)).bind fun v3 =>
 some (v3.1, (v1.2, (v2.2, v3.2)))
noncomputable def laws_toBlock (v0 : (Int × (Int × List (Int × Int)))) : Option (Int × (Int × List (Int × Int))) :=
 (laws_toLeS v0.2.2).bind fun v1 =>
 some (v0.1, (v0.2.1, v1))
noncomputable def laws_eqBlock (v0 : ((Int × (Int × List (Int × Int))) × (Int × (Int × List (Int × Int))))) : Option Bool :=
 let v1 : Bool := decide (v0.1.1 ≠ v0.2.1)
 bif v1 then (
  some false) else
 let v2 : Bool := decide (v0.1.2.1 ≠ v0.2.2.1)
 bif v2 then (
  some false) else
 (laws_eqLeS (v0.1.2.2, v0.2.2.2)).bind fun v3 =>
 let v4 : Bool := !v3
 bif v4 then (
  some false) else
 some true
noncomputable def laws_szSeqS (v0 : (List (Int × (Int × List Int)) × Int)) : Option Int :=
 let v1 : Int := ((v0.1).length : Int)
 let v2 : Int := wrap .i64 (v0.2 - v1)
 let v3 : Bool := decide (v2 < 0)
 bif v3 then (
  some (-1)) else
 Pu.loop (fun (v4 : (Int × Int)) =>
  let v5 : Int := ((v0.1).length : Int)
  let v6 : Bool := decide (v4.2 < v5)
  bif v6 then (
   (gget (0, (0, [])) v0.1 v4.2).bind fun v7 =>
   (laws_szSeq (v7, v4.1)).bind fun v8 =>
   let v9 : Bool := decide (v8 < 0)
   bif v9 then (
    Option.map Sum.inr (
     some (-1))) else
   let v10 : Int := wrap .i64 (v4.2 + 1)
   some (.inl (v8, v10))) else
  Option.map Sum.inr (
   some v4.1)) (v2, 0)
noncomputable def laws_szLutS (v0 : (List (List Int × Int) × Int)) : Option Int :=
 let v1 : Int := ((v0.1).length : Int)
 let v2 : Int := wrap .i64 (v0.2 - v1)
 let v3 : Bool := decide (v2 < 0)
 bif v3 then (
  some (-1)) else
 Pu.loop (fun (v4 : (Int × Int)) =>
  let v5 : Int := ((v0.1).length : Int)
  let v6 : Bool := decide (v4.2 < v5)
  bif v6 then (
   (gget ([], 0) v0.1 v4.2).bind fun v7 =>
   (laws_szLut (v7, v4.1)).bind fun v8 =>
   let v9 : Bool := decide (v8 < 0)
   bif v9 then (
    Option.map Sum.inr (
     some (-1))) else
   let v10 : Int := wrap .i64 (v4.2 + 1)
   some (.inl (v8, v10))) else
  Option.map Sum.inr (
   some v4.1)) (v2, 0)
noncomputable def spec_LutNetOk (v0 : (Int × (List (Int × (Int × List Int)) × (List (List Int × Int) × List Int)))) : Option Bool :=
 (spec_LutNodes v0).bind fun v1 =>
 let v2 : Bool := decide (v1 = 0)
 bif v2 then (
  some false) else
 (spec_l20Below (v0.2.2.2, v1)).bind fun v3 =>
 let v4 : Bool := !v3
 bif v4 then (
  some false) else
 Pu.loop (fun (v5 : Int) =>
  let v6 : Int := ((v0.2.1).length : Int)
  let v7 : Bool := decide (v5 < v6)
  bif v7 then (
   (gget (0, (0, [])) v0.2.1 v5).bind fun v8 =>
   let v9 : Bool := decide (v8.1 = 0)
   bif v9 then (
    (spec_l01In (v8.2.1, (0, 1))).bind fun v10 =>
    bif v10 then (
     let v11 : Int := ((v8.2.2).length : Int)
     let v12 : Bool := decide (v11 = 1)
     bif v12 then (
      (spec_l20Below (v8.2.2, v1)).bind fun v13 =>
      let v14 : Bool := !v13
      bif v14 then (
       Option.map Sum.inr (
        some false)) else
      let v15 : Int := wrap .i64 (v5 + 1)
      some (.inl v15)) else
     let v13 : Bool := decide (v8.1 = 1)
     bif v13 then (
      (spec_l01In (v8.2.1, (0, 31))).bind fun v14 =>
      bif v14 then (
       let v15 : Int := ((v8.2.2).length : Int)
       let v16 : Bool := decide (v15 = 4)
       let v17 : Bool := !v16
       bif v17 then (
        Option.map Sum.inr (
         some false)) else
       (spec_l20Below (v8.2.2, v1)).bind fun v18 =>
       let v19 : Bool := !v18
       bif v19 then (
        Option.map Sum.inr (
         some false)) else
       let v20 : Int := wrap .i64 (v5 + 1)
       some (.inl v20)) else
      Option.map Sum.inr (
       some false)) else
     Option.map Sum.inr (
      some false)) else
    let v11 : Bool := decide (v8.1 = 1)
    bif v11 then (
     (spec_l01In (v8.2.1, (0, 31))).bind fun v12 =>
     bif v12 then (
      let v13 : Int := ((v8.2.2).length : Int)
      let v14 : Bool := decide (v13 = 4)
      let v15 : Bool := !v14
      bif v15 then (
       Option.map Sum.inr (
        some false)) else
      (spec_l20Below (v8.2.2, v1)).bind fun v16 =>
      let v17 : Bool := !v16
      bif v17 then (
       Option.map Sum.inr (
        some false)) else
      let v18 : Int := wrap .i64 (v5 + 1)
      some (.inl v18)) else
     Option.map Sum.inr (
      some false)) else
    Option.map Sum.inr (
     some false)) else
   let v10 : Bool := decide (v8.1 = 1)
   bif v10 then (
    (spec_l01In (v8.2.1, (0, 31))).bind fun v11 =>
    bif v11 then (
     let v12 : Int := ((v8.2.2).length : Int)
     let v13 : Bool := decide (v12 = 4)
     let v14 : Bool := !v13
     bif v14 then (
      Option.map Sum.inr (
       some false)) else
     (spec_l20Below (v8.2.2, v1)).bind fun v15 =>
     let v16 : Bool := !v15
     bif v16 then (
      Option.map Sum.inr (
       some false)) else
     let v17 : Int := wrap .i64 (v5 + 1)
     some (.inl v17)) else
    Option.map Sum.inr (
     some false)) else
   Option.map Sum.inr (
    some false)) else
  Option.map Sum.inr (
   Pu.loop (fun (v8 : Int) =>
    let v9 : Int := ((v0.2.2.1).length : Int)
    let v10 : Bool := decide (v8 < v9)
    bif v10 then (
     (gget ([], 0) v0.2.2.1 v8).bind fun v11 =>
     let v12 : Int := ((v11.1).length : Int)
     (spec_TableOk (v12, v11.2)).bind fun v13 =>
     let v14 : Bool := !v13
     bif v14 then (
      Option.map Sum.inr (
       some false)) else
     (spec_l20First v0).bind fun v15 =>
     let v16 : Int := wrap .i64 (v15 + v8)
     (spec_l20Below (v11.1, v16)).bind fun v17 =>
     let v18 : Bool := !v17
     bif v18 then (
      Option.map Sum.inr (
       some false)) else
     let v19 : Int := wrap .i64 (v8 + 1)
     some (.inl v19)) else
    Option.map Sum.inr (
     some true)) 0)) 0
noncomputable def spec_l28Uses (v0 : (Int × (List (Int × (Int × List Int)) × (List (List Int × Int) × List Int)))) : Option (List Int) :=
 (spec_LutNodes v0).bind fun v1 =>
 (gmake 8 (0 : Int) v1).bind fun v2 =>
 Pu.loop (fun (v3 : (Int × List Int)) =>
  let v4 : Int := ((v0.2.2.1).length : Int)
  let v5 : Bool := decide (v3.1 < v4)
  bif v5 then (
   Pu.loop (fun (v6 : (Int × List Int)) =>
    (gget ([], 0) v0.2.2.1 v3.1).bind fun v7 =>
    let v8 : Int := ((v7.1).length : Int)
    let v9 : Bool := decide (v6.1 < v8)
    bif v9 then (
     (gget ([], 0) v0.2.2.1 v3.1).bind fun v10 =>
     (gget 0 v10.1 v6.1).bind fun v11 =>
     (gin (v6.2).length v11).bind fun _ =>
     (gget 0 v6.2 v11).bind fun v13 =>
     let v14 : Int := wrap .i64 (v13 + 1)
     (gin (v6.2).length v11).bind fun _ =>
     (gget 0 v6.2 v11).bind fun v16 =>
     let v17 : Int := v14
     let v18 : List Int := gset v6.2 v11 v17
     let v19 : Int := wrap .i64 (v6.1 + 1)
     some (.inl (v19, v18))) else
    Option.map Sum.inr (
     let v10 : Int := wrap .i64 (v3.1 + 1)
     some (.inl (v10, v6.2)))) (0, v3.2)) else
  Option.map Sum.inr (
   Pu.loop (fun (v6 : (Int × List Int)) =>
    let v7 : Int := ((v0.2.1).length : Int)
    let v8 : Bool := decide (v6.1 < v7)
    bif v8 then (
     Pu.loop (fun (v9 : (Int × List Int)) =>
      (gget (0, (0, [])) v0.2.1 v6.1).bind fun v10 =>
      let v11 : Int := ((v10.2.2).length : Int)
      let v12 : Bool := decide (v9.1 < v11)
      bif v12 then (
       (gget (0, (0, [])) v0.2.1 v6.1).bind fun v13 =>
       (gget 0 v13.2.2 v9.1).bind fun v14 =>
       (gin (v9.2).length v14).bind fun _ =>
       (gget 0 v9.2 v14).bind fun v16 =>
       let v17 : Int := wrap .i64 (v16 + 1)
       (gin (v9.2).length v14).bind fun _ =>
       (gget 0 v9.2 v14).bind fun v19 =>
       let v20 : Int := v17
       let v21 : List Int := gset v9.2 v14 v20
       let v22 : Int := wrap .i64 (v9.1 + 1)
       some (.inl (v22, v21))) else
      Option.map Sum.inr (
       let v13 : Int := wrap .i64 (v6.1 + 1)
       some (.inl (v13, v9.2)))) (0, v6.2)) else
    Option.map Sum.inr (
     Pu.loop (fun (v9 : (Int × List Int)) =>
      let v10 : Int := ((v0.2.2.2).length : Int)
      let v11 : Bool := decide (v9.1 < v10)
      bif v11 then (
       (gget 0 v0.2.2.2 v9.1).bind fun v12 =>
       (gin (v9.2).length v12).bind fun _ =>
       (gget 0 v9.2 v12).bind fun v14 =>
       let v15 : Int := wrap .i64 (v14 + 1)
       (gin (v9.2).length v12).bind fun _ =>
       (gget 0 v9.2 v12).bind fun v17 =>
       let v18 : Int := v15
       let v19 : List Int := gset v9.2 v12 v18
       let v20 : Int := wrap .i64 (v9.1 + 1)
       some (.inl (v20, v19))) else
      Option.map Sum.inr (
       some v9.2)) (0, v6.2))) (0, v3.2))) (0, v2)
noncomputable def laws_toSeqS (v0 : List (Int × (Int × List Int))) : Option (List (Int × (Int × List Int))) :=
 let v1 : Int := ((v0).length : Int)
 (gmake 40 ((0, (0, [])) : (Int × (Int × List Int))) v1).bind fun v2 =>
 Pu.loop (fun (v3 : (Int × List (Int × (Int × List Int)))) =>
  let v4 : Int := ((v0).length : Int)
  let v5 : Bool := decide (v3.1 < v4)
  bif v5 then (
   (gget (0, (0, [])) v0 v3.1).bind fun v6 =>
   (laws_toSeq v6).bind fun v7 =>
   (gin (v3.2).length v3.1).bind fun _ =>
   (gget (0, (0, [])) v3.2 v3.1).bind fun v9 =>
   let v10 : (Int × (Int × List Int)) := v7
   let v11 : List (Int × (Int × List Int)) := gset v3.2 v3.1 v10
   let v12 : Int := wrap .i64 (v3.1 + 1)
   some (.inl (v12, v11))) else
  Option.map Sum.inr (
   some v3.2)) (0, v2)
noncomputable def laws_toLutS (v0 : List (List Int × Int)) : Option (List (List Int × Int)) :=
 let v1 : Int := ((v0).length : Int)
 (gmake 32 (([], 0) : (List Int × Int)) v1).bind fun v2 =>
 Pu.loop (fun (v3 : (Int × List (List Int × Int))) =>
  let v4 : Int := ((v0).length : Int)
  let v5 : Bool := decide (v3.1 < v4)
  bif v5 then (
   (gget ([], 0) v0 v3.1).bind fun v6 =>
   (laws_toLut v6).bind fun v7 =>
   (gin (v3.2).length v3.1).bind fun _ =>
   (gget ([], 0) v3.2 v3.1).bind fun v9 =>
   let v10 : (List Int × Int) := v7
   let v11 : List (List Int × Int) := gset v3.2 v3.1 v10
   let v12 : Int := wrap .i64 (v3.1 + 1)
   some (.inl (v12, v11))) else
  Option.map Sum.inr (
   some v3.2)) (0, v2)
noncomputable def impl_LutNetOk (v0 : (Int × (List (Int × (Int × List Int)) × (List (List Int × Int) × List Int)))) : Option Bool :=
 (impl_LutNodes v0).bind fun v1 =>
 let v2 : Bool := decide (v1 = 0)
 bif v2 then (
  some false) else
 (impl_nodesBelow (v0.2.2.2, v1)).bind fun v3 =>
 let v4 : Bool := !v3
 bif v4 then (
  some false) else
 let v5 : Int := ((v0.2.1).length : Int)
 Pu.loop (fun (v6 : Int) =>
  let v7 : Bool := decide (v6 < v5)
  bif v7 then (
   (gget (0, (0, [])) v0.2.1 v6).bind fun v8 =>
   (impl_seqOk v8).bind fun v9 =>
   let v10 : Bool := !v9
   bif v10 then (
    Option.map Sum.inr (
     some false)) else
   (impl_nodesBelow (v8.2.2, v1)).bind fun v11 =>
   let v12 : Bool := !v11
   bif v12 then (
    Option.map Sum.inr (
     some false)) else
   let v13 : Int := wrap .i64 (v6 + 1)
   some (.inl v13)) else
  Option.map Sum.inr (
   let v8 : Int := ((v0.2.2.1).length : Int)
   Pu.loop (fun (v9 : Int) =>
    let v10 : Bool := decide (v9 < v8)
    bif v10 then (
     (gget ([], 0) v0.2.2.1 v9).bind fun v11 =>
     let v12 : Int := ((v11.1).length : Int)
     let v13 : Bool := decide (4 < v12)
     bif v13 then (
      Option.map Sum.inr (
       some false)) else
     (impl_firstLut v0).bind fun v14 =>
     let v15 : Int := wrap .i64 (v14 + v9)
     (impl_nodesBelow (v11.1, v15)).bind fun v16 =>
     let v17 : Bool := !v16
     bif v17 then (
      Option.map Sum.inr (
       some false)) else
     let v18 : Int := ((v11.1).length : Int)
     (impl_TableOk (v18, v11.2)).bind fun v19 =>
     let v20 : Bool := !v19
     bif v20 then (
      Option.map Sum.inr (
       some false)) else
     let v21 : Int := wrap .i64 (v9 + 1)
     some (.inl v21)) else
    Option.map Sum.inr (
     some true)) 0)) 0
noncomputable def laws_eqSeqS (v0 : (List (Int × (Int × List Int)) × List (Int × (Int × List Int)))) : Option Bool :=
 let v1 : Int := ((v0.1).length : Int)
 let v2 : Int := ((v0.2).length : Int)
 let v3 : Bool := decide (v1 ≠ v2)
 bif v3 then (
  some false) else
 Pu.loop (fun (v4 : Int) =>
  let v5 : Int := ((v0.1).length : Int)
  let v6 : Bool := decide (v4 < v5)
  bif v6 then (
   (gget (0, (0, [])) v0.1 v4).bind fun v7 =>
   (gget (0, (0, [])) v0.2 v4).bind fun v8 =>
   (laws_eqSeq (v7, v8)).bind fun v9 =>
   let v10 : Bool := !v9
   bif v10 then (
    Option.map Sum.inr (
     some false)) else
   let v11 : Int := wrap .i64 (v4 + 1)
   some (.inl v11)) else
  Option.map Sum.inr (
   some true)) 0
noncomputable def laws_eqLutS (v0 : (List (List Int × Int) × List (List Int × Int))) : Option Bool :=
 let v1 : Int := ((v0.1).length : Int)
 let v2 : Int := ((v0.2).length : Int)
 let v3 : Bool := decide (v1 ≠ v2)
 bif v3 then (
  some false) else
 Pu.loop (fun (v4 : Int) =>
  let v5 : Int := ((v0.1).length : Int)
  let v6 : Bool := decide (v4 < v5)
  bif v6 then (
   (gget ([], 0) v0.1 v4).bind fun v7 =>
   (gget ([], 0) v0.2 v4).bind fun v8 =>
   (laws_eqLut (v7, v8)).bind fun v9 =>
   let v10 : Bool := !v9
   bif v10 then (
    Option.map Sum.inr (
     some false)) else
   let v11 : Int := wrap .i64 (v4 + 1)
   some (.inl v11)) else
  Option.map Sum.inr (
   some true)) 0
noncomputable def impl_leOk (v0 : ((Int × (List (Int × (Int × List Int)) × (List (List Int × Int) × List Int))) × (Int × Int))) : Option Bool :=
 joinO (
  let v1 : Int := ((v0.1.2.2.1).length : Int)
  let v2 : Int := wrap .i64 (v1 - 1)
  (impl_inRange (v0.2.1, ((-1), v2))).bind fun v3 =>
  let v4 : Bool := !v3
  bif v4 then (
   Option.map Sum.inr (
    some false)) else
  let v5 : Int := ((v0.1.2.1).length : Int)
  let v6 : Int := wrap .i64 (v5 - 1)
  (impl_inRange (v0.2.2, ((-1), v6))).bind fun v7 =>
  let v8 : Bool := !v7
  bif v8 then (
   Option.map Sum.inr (
    some false)) else
  let v9 : Bool := decide (v0.2.1 = (-1))
  bif v9 then (
   let v10 : Bool := decide (v0.2.2 = (-1))
   bif v10 then (
    Option.map Sum.inr (
     some false)) else
   some (.inl ())) else
  some (.inl ())) (fun (v1 : Unit) =>
  let v2 : Bool := decide (0 ≤ v0.2.2)
  bif v2 then (
   (gget (0, (0, [])) v0.1.2.1 v0.2.2).bind fun v3 =>
   let v4 : Bool := decide (v3.1 ≠ 0)
   bif v4 then (
    some false) else
   let v5 : Bool := decide (0 ≤ v0.2.1)
   bif v5 then (
    let v6 : Bool := decide (0 ≤ v0.2.2)
    bif v6 then (
     (impl_firstLut v0.1).bind fun v7 =>
     let v8 : Int := wrap .i64 (v7 + v0.2.1)
     (gget (0, (0, [])) v0.1.2.1 v0.2.2).bind fun v9 =>
     (gget 0 v9.2.2 0).bind fun v10 =>
     let v11 : Bool := decide (v10 = v8)
     bif v11 then (
      (impl_useCounts v0.1).bind fun v12 =>
      (gin (v12).length v8).bind fun _ =>
      (gget 0 v12 v8).bind fun v14 =>
      let v15 : Bool := decide (v14 = 1)
      some v15) else
     some false) else
    some true) else
   some true) else
  let v3 : Bool := decide (0 ≤ v0.2.1)
  bif v3 then (
   let v4 : Bool := decide (0 ≤ v0.2.2)
   bif v4 then (
    (impl_firstLut v0.1).bind fun v5 =>
    let v6 : Int := wrap .i64 (v5 + v0.2.1)
    (gget (0, (0, [])) v0.1.2.1 v0.2.2).bind fun v7 =>
    (gget 0 v7.2.2 0).bind fun v8 =>
    let v9 : Bool := decide (v8 = v6)
    bif v9 then (
     (impl_useCounts v0.1).bind fun v10 =>
     (gin (v10).length v6).bind fun _ =>
     (gget 0 v10 v6).bind fun v12 =>
     let v13 : Bool := decide (v12 = 1)
     some v13) else
    some false) else
   some true) else
  some true)
noncomputable def spec_l28Ins (v0 : ((Int × (List (Int × (Int × List Int)) × (List (List Int × Int) × List Int))) × (Int × Int))) : Option (List Int) :=
 let v1 : Bool := decide (0 ≤ v0.2.1)
 bif v1 then (
  (gget ([], 0) v0.1.2.2.1 v0.2.1).bind fun v2 =>
  (spec_l28Set (v2.1, ([] : List Int))).bind fun v3 =>
  some v3) else
 (gget (0, (0, [])) v0.1.2.1 v0.2.2).bind fun v2 =>
 (spec_l28Set (v2.2.2, ([] : List Int))).bind fun v3 =>
 some v3
noncomputable def impl_outNodes (v0 : ((Int × (List (Int × (Int × List Int)) × (List (List Int × Int) × List Int))) × (Int × (Int × List (Int × Int))))) : Option (List Int) :=
 let v1 : Bool := decide (v0.2.1 = 0)
 bif v1 then (
  let v2 : Int := wrap .i64 (1 + v0.2.2.1)
  let v3 : List Int := [v2]
  some v3) else
 let v2 : Bool := decide (v0.2.1 = 1)
 bif v2 then (
  some ([] : List Int)) else
 let v3 : Bool := decide (v0.2.1 = 2)
 bif v3 then (
  let v4 : Int := wrap .i64 (1 + v0.1.1)
  let v5 : Int := wrap .i64 (v4 + v0.2.2.1)
  let v6 : List Int := [v5]
  some v6) else
 let v4 : Int := ((v0.2.2.2).length : Int)
 Pu.loop (fun (v5 : (List Int × Int)) =>
  let v6 : Bool := decide (v5.2 < v4)
  bif v6 then (
   (gget (0, 0) v0.2.2.2 v5.2).bind fun v7 =>
   (impl_leOutput (v0.1, v7)).bind fun v8 =>
   let v9 : List Int := [v8]
   (gapp 8 v5.1 v9).bind fun v10 =>
   let v11 : Int := wrap .i64 (v5.2 + 1)
   some (.inl (v10, v11))) else
  Option.map Sum.inr (
   some v5.1)) (([] : List Int), 0)
noncomputable def impl_pinNodes (v0 : ((Int × (List (Int × (Int × List Int)) × (List (List Int × Int) × List Int))) × (Int × (Int × List (Int × Int))))) : Option (List Int) :=
 let v1 : Bool := decide (v0.2.1 = 0)
 bif v1 then (
  some ([] : List Int)) else
 let v2 : Bool := decide (v0.2.1 = 1)
 bif v2 then (
  (gget 0 v0.1.2.2.2 v0.2.2.1).bind fun v3 =>
  let v4 : List Int := [v3]
  some v4) else
 let v3 : Bool := decide (v0.2.1 = 2)
 bif v3 then (
  (gget (0, (0, [])) v0.1.2.1 v0.2.2.1).bind fun v4 =>
  (impl_copyInts v4.2.2).bind fun v5 =>
  some v5) else
 let v4 : Int := ((v0.2.2.2).length : Int)
 Pu.loop (fun (v5 : (List Int × Int)) =>
  let v6 : Bool := decide (v5.2 < v4)
  bif v6 then (
   (gget (0, 0) v0.2.2.2 v5.2).bind fun v7 =>
   (impl_leOutput (v0.1, v7)).bind fun v8 =>
   let v9 : List Int := [v8]
   (gapp 8 v5.1 v9).bind fun v10 =>
   let v11 : Int := wrap .i64 (v5.2 + 1)
   some (.inl (v10, v11))) else
  Option.map Sum.inr (
   let v7 : Int := ((v0.2.2.2).length : Int)
   Pu.loop (fun (v8 : (List Int × Int)) =>
    let v9 : Bool := decide (v8.2 < v7)
    bif v9 then (
     (gget (0, 0) v0.2.2.2 v8.2).bind fun v10 =>
     (impl_leInputs (v0.1, v10)).bind fun v11 =>
     let v12 : Int := ((v11).length : Int)
     Pu.loop (fun (v13 : (Int × List Int)) =>
      let v14 : Bool := decide (v13.1 < v12)
      bif v14 then (
       (gin (v11).length v13.1).bind fun _ =>
       (gget 0 v11 v13.1).bind fun v16 =>
       (impl_hasInt (v5.1, v16)).bind fun v17 =>
       let v18 : Bool := !v17
       bif v18 then (
        (impl_insertInt (v13.2, v16)).bind fun v19 =>
        let v20 : Int := wrap .i64 (v13.1 + 1)
        some (.inl (v20, v19))) else
       let v19 : Int := wrap .i64 (v13.1 + 1)
       some (.inl (v19, v13.2))) else
      Option.map Sum.inr (
       let v15 : Int := wrap .i64 (v8.2 + 1)
       some (.inl (v13.2, v15)))) (0, v8.1)) else
    Option.map Sum.inr (
     some v8.1)) (([] : List Int), 0))) (([] : List Int), 0)
noncomputable def laws_szLutNet (v0 : ((Int × (List (Int × (Int × List Int)) × (List (List Int × Int) × List Int))) × Int)) : Option Int :=
 (laws_szSeqS (v0.1.2.1, v0.2)).bind fun v1 =>
 let v2 : Bool := decide (v1 < 0)
 bif v2 then (
  some (-1)) else
 (laws_szLutS (v0.1.2.2.1, v1)).bind fun v3 =>
 let v4 : Bool := decide (v3 < 0)
 bif v4 then (
  some (-1)) else
 (laws_szIntS (v0.1.2.2.2, v3)).bind fun v5 =>
 let v6 : Bool := decide (v5 < 0)
 bif v6 then (
  some (-1)) else
 some v5
noncomputable def laws_toLutNet (v0 : (Int × (List (Int × (Int × List Int)) × (List (List Int × Int) × List Int)))) : Option (Int × (List (Int × (Int × List Int)) × (List (List Int × Int) × List Int))) :=
 (laws_toSeqS v0.2.1).bind fun v1 =>
 (laws_toLutS v0.2.2.1).bind fun v2 =>
 (laws_toIntS v0.2.2.2).bind fun v3 =>
 some (v0.1, (v1, (v2, v3)))
noncomputable def laws_eqLutNet (v0 : ((Int × (List (Int × (Int × List Int)) × (List (List Int × Int) × List Int))) × (Int × (List (Int × (Int × List Int)) × (List (List Int × Int) × List Int))))) : Option Bool :=
 let v1 : Bool := decide (v0.1.1 ≠ v0.2.1)
 bif v1 then (
  some false) else
 (laws_eqSeqS (v0.1.2.1, v0.2.2.1)).bind fun v2 =>
 let v3 : Bool := !v2
 bif v3 then (
  some false) else
 (laws_eqLutS (v0.1.2.2.1, v0.2.2.2.1)).bind fun v4 =>
 let v5 : Bool := !v4
 bif v5 then (
  some false) else
 (laws_eqIntS (v0.1.2.2.2, v0.2.2.2.2)).bind fun v6 =>
 let v7 : Bool := !v6
 bif v7 then (
  some false) else
 some true
noncomputable def spec_l28Le (v0 : ((Int × (List (Int × (Int × List Int)) × (List (List Int × Int) × List Int))) × (Int × Int))) : Option Bool :=
 joinO (
  let v1 : Int := ((v0.1.2.2.1).length : Int)
  let v2 : Int := wrap .i64 (v1 - 1)
  (spec_l01In (v0.2.1, ((-1), v2))).bind fun v3 =>
  let v4 : Bool := !v3
  bif v4 then (
   Option.map Sum.inr (
    some false)) else
  let v5 : Int := ((v0.1.2.1).length : Int)
  let v6 : Int := wrap .i64 (v5 - 1)
  (spec_l01In (v0.2.2, ((-1), v6))).bind fun v7 =>
  let v8 : Bool := !v7
  bif v8 then (
   Option.map Sum.inr (
    some false)) else
  let v9 : Bool := decide (v0.2.1 < 0)
  bif v9 then (
   let v10 : Bool := decide (v0.2.2 < 0)
   bif v10 then (
    Option.map Sum.inr (
     some false)) else
   some (.inl ())) else
  some (.inl ())) (fun (v1 : Unit) =>
  let v2 : Bool := decide (0 ≤ v0.2.2)
  bif v2 then (
   (gget (0, (0, [])) v0.1.2.1 v0.2.2).bind fun v3 =>
   let v4 : Bool := decide (v3.1 ≠ 0)
   bif v4 then (
    some false) else
   let v5 : Bool := decide (v0.2.1 < 0)
   bif v5 then (
    some true) else
   let v6 : Bool := decide (v0.2.2 < 0)
   bif v6 then (
    some true) else
   (spec_l20First v0.1).bind fun v7 =>
   let v8 : Int := wrap .i64 (v7 + v0.2.1)
   (gget (0, (0, [])) v0.1.2.1 v0.2.2).bind fun v9 =>
   (gget 0 v9.2.2 0).bind fun v10 =>
   let v11 : Bool := decide (v10 = v8)
   bif v11 then (
    (spec_l28Uses v0.1).bind fun v12 =>
    (gin (v12).length v8).bind fun _ =>
    (gget 0 v12 v8).bind fun v14 =>
    let v15 : Bool := decide (v14 = 1)
    some v15) else
   some false) else
  let v3 : Bool := decide (v0.2.1 < 0)
  bif v3 then (
   some true) else
  let v4 : Bool := decide (v0.2.2 < 0)
  bif v4 then (
   some true) else
  (spec_l20First v0.1).bind fun v5 =>
  let v6 : Int := wrap .i64 (v5 + v0.2.1)
  (gget (0, (0, [])) v0.1.2.1 v0.2.2).bind fun v7 =>
  (gget 0 v7.2.2 0).bind fun v8 =>
  let v9 : Bool := decide (v8 = v6)
  bif v9 then (
   (spec_l28Uses v0.1).bind fun v10 =>
   (gin (v10).length v6).bind fun _ =>
   (gget 0 v10 v6).bind fun v12 =>
   let v13 : Bool := decide (v12 = 1)
   some v13) else
  some false)
noncomputable def impl_itemExists (v0 : ((Int × (List (Int × (Int × List Int)) × (List (List Int × Int) × List Int))) × (Int × (Int × List (Int × Int))))) : Option Bool :=
 let v1 : Bool := decide (v0.2.1 = 0)
 bif v1 then (
  let v2 : Int := wrap .i64 (v0.1.1 - 1)
  (impl_inRange (v0.2.2.1, (0, v2))).bind fun v3 =>
  some v3) else
 let v2 : Bool := decide (v0.2.1 = 1)
 bif v2 then (
  let v3 : Int := ((v0.1.2.2.2).length : Int)
  let v4 : Int := wrap .i64 (v3 - 1)
  (impl_inRange (v0.2.2.1, (0, v4))).bind fun v5 =>
  some v5) else
 let v3 : Bool := decide (v0.2.1 = 2)
 bif v3 then (
  let v4 : Int := ((v0.1.2.1).length : Int)
  let v5 : Int := wrap .i64 (v4 - 1)
  (impl_inRange (v0.2.2.1, (0, v5))).bind fun v6 =>
  some v6) else
 let v4 : Bool := decide (v0.2.1 = 3)
 bif v4 then (
  let v5 : Int := ((v0.2.2.2).length : Int)
  Pu.loop (fun (v6 : Int) =>
   let v7 : Bool := decide (v6 < v5)
   bif v7 then (
    (gget (0, 0) v0.2.2.2 v6).bind fun v8 =>
    (impl_leOk (v0.1, v8)).bind fun v9 =>
    let v10 : Bool := !v9
    bif v10 then (
     Option.map Sum.inr (
      some false)) else
    let v11 : Int := wrap .i64 (v6 + 1)
    some (.inl v11)) else
   Option.map Sum.inr (
    some true)) 0) else
 some false
noncomputable def spec_l28Pins (v0 : ((Int × (List (Int × (Int × List Int)) × (List (List Int × Int) × List Int))) × List (Int × Int))) : Option (List Int) :=
 Pu.loop (fun (v1 : (Int × (List Int × List Int))) =>
  let v2 : Int := ((v0.2).length : Int)
  let v3 : Bool := decide (v1.1 < v2)
  bif v3 then (
   (gget (0, 0) v0.2 v1.1).bind fun v4 =>
   (spec_l28Ins (v0.1, v4)).bind fun v5 =>
   (gapp 8 v1.2.1 v5).bind fun v6 =>
   (gget (0, 0) v0.2 v1.1).bind fun v7 =>
   (spec_l28Out (v0.1, v7)).bind fun v8 =>
   let v9 : List Int := [v8]
   (gapp 8 v1.2.2 v9).bind fun v10 =>
   let v11 : Int := wrap .i64 (v1.1 + 1)
   some (.inl (v11, (v6, v10)))) else
  Option.map Sum.inr (
   (spec_l28Set v1.2).bind fun v4 =>
   some v4)) (0, (([] : List Int), ([] : List Int)))
noncomputable def spec_l28Known (v0 : ((Int × (List (Int × (Int × List Int)) × (List (List Int × Int) × List Int))) × (Int × (Int × List (Int × Int))))) : Option Bool :=
 (spec_LutNetOk v0.1).bind fun v1 =>
 let v2 : Bool := !v1
 bif v2 then (
  some false) else
 let v3 : Bool := decide (v0.2.1 = 0)
 bif v3 then (
  let v4 : Bool := decide (0 ≤ v0.2.2.1)
  bif v4 then (
   let v5 : Bool := decide (v0.2.2.1 < v0.1.1)
   some v5) else
  some false) else
 let v4 : Bool := decide (v0.2.1 = 1)
 bif v4 then (
  let v5 : Bool := decide (0 ≤ v0.2.2.1)
  bif v5 then (
   let v6 : Int := ((v0.1.2.2.2).length : Int)
   let v7 : Bool := decide (v0.2.2.1 < v6)
   some v7) else
  some false) else
 let v5 : Bool := decide (v0.2.1 = 2)
 bif v5 then (
  let v6 : Bool := decide (0 ≤ v0.2.2.1)
  bif v6 then (
   let v7 : Int := ((v0.1.2.1).length : Int)
   let v8 : Bool := decide (v0.2.2.1 < v7)
   some v8) else
  some false) else
 Pu.loop (fun (v6 : Int) =>
  let v7 : Int := ((v0.2.2.2).length : Int)
  let v8 : Bool := decide (v6 < v7)
  bif v8 then (
   (gget (0, 0) v0.2.2.2 v6).bind fun v9 =>
   (spec_l28Le (v0.1, v9)).bind fun v10 =>
   let v11 : Bool := !v10
   bif v11 then (
    Option.map Sum.inr (
     some false)) else
   let v12 : Int := wrap .i64 (v6 + 1)
   some (.inl v12)) else
  Option.map Sum.inr (
   let v9 : Bool := decide (v0.2.1 = 3)
   some v9)) 0
noncomputable def impl_blockOk (v0 : ((Int × (List (Int × (Int × List Int)) × (List (List Int × Int) × List Int))) × (Int × (Int × List (Int × Int))))) : Option Bool :=
 (impl_itemExists v0).bind fun v1 =>
 let v2 : Bool := !v1
 bif v2 then (
  some false) else
 let v3 : Bool := decide (v0.2.1 ≠ 3)
 bif v3 then (
  let v4 : Int := ((v0.2.2.2).length : Int)
  let v5 : Bool := decide (v4 = 0)
  bif v5 then (
   let v6 : Bool := decide (v0.2.1 ≠ 2)
   bif v6 then (
    some true) else
   (gget (0, (0, [])) v0.1.2.1 v0.2.2.1).bind fun v7 =>
   let v8 : Bool := decide (v7.1 = 1)
   some v8) else
  some false) else
 let v4 : Bool := decide (v0.2.2.1 = 0)
 bif v4 then (
  let v5 : Int := ((v0.2.2.2).length : Int)
  (impl_inRange (v5, (1, 2))).bind fun v6 =>
  bif v6 then (
   (impl_pinNodes v0).bind fun v7 =>
   let v8 : Int := ((v7).length : Int)
   let v9 : Bool := decide (v8 ≤ 5)
   some v9) else
  some false) else
 some false
noncomputable def spec_OutNodes (v0 : ((Int × (List (Int × (Int × List Int)) × (List (List Int × Int) × List Int))) × (Int × (Int × List (Int × Int))))) : Option (List Int) :=
 (spec_l28Known v0).bind fun v1 =>
 let v2 : Bool := !v1
 bif v2 then (
  some ([] : List Int)) else
 let v3 : Bool := decide (v0.2.1 = 0)
 bif v3 then (
  let v4 : Int := wrap .i64 (1 + v0.2.2.1)
  let v5 : List Int := [v4]
  some v5) else
 let v4 : Bool := decide (v0.2.1 = 1)
 bif v4 then (
  some ([] : List Int)) else
 let v5 : Bool := decide (v0.2.1 = 2)
 bif v5 then (
  let v6 : Int := wrap .i64 (1 + v0.1.1)
  let v7 : Int := wrap .i64 (v6 + v0.2.2.1)
  let v8 : List Int := [v7]
  some v8) else
 Pu.loop (fun (v6 : (Int × List Int)) =>
  let v7 : Int := ((v0.2.2.2).length : Int)
  let v8 : Bool := decide (v6.1 < v7)
  bif v8 then (
   (gget (0, 0) v0.2.2.2 v6.1).bind fun v9 =>
   (spec_l28Out (v0.1, v9)).bind fun v10 =>
   let v11 : List Int := [v10]
   (gapp 8 v6.2 v11).bind fun v12 =>
   let v13 : Int := wrap .i64 (v6.1 + 1)
   some (.inl (v13, v12))) else
  Option.map Sum.inr (
   some v6.2)) (0, ([] : List Int))
noncomputable def spec_BlockOk (v0 : ((Int × (List (Int × (Int × List Int)) × (List (List Int × Int) × List Int))) × (Int × (Int × List (Int × Int))))) : Option Bool :=
 (spec_l28Known v0).bind fun v1 =>
 let v2 : Bool := !v1
 bif v2 then (
  some false) else
 let v3 : Bool := decide (v0.2.1 = 3)
 bif v3 then (
  let v4 : Bool := decide (v0.2.2.1 = 0)
  bif v4 then (
   let v5 : Int := ((v0.2.2.2).length : Int)
   (spec_l01In (v5, (1, 2))).bind fun v6 =>
   bif v6 then (
    (spec_l28Pins (v0.1, v0.2.2.2)).bind fun v7 =>
    let v8 : Int := ((v7).length : Int)
    let v9 : Bool := decide (v8 ≤ 5)
    some v9) else
   some false) else
  some false) else
 let v4 : Int := ((v0.2.2.2).length : Int)
 let v5 : Bool := decide (v4 = 0)
 bif v5 then (
  let v6 : Bool := decide (v0.2.1 ≠ 2)
  bif v6 then (
   some true) else
  (gget (0, (0, [])) v0.1.2.1 v0.2.2.1).bind fun v7 =>
  let v8 : Bool := decide (v7.1 = 1)
  some v8) else
 some false
noncomputable def spec_PinNodes (v0 : ((Int × (List (Int × (Int × List Int)) × (List (List Int × Int) × List Int))) × (Int × (Int × List (Int × Int))))) : Option (List Int) :=
 (spec_l28Known v0).bind fun v1 =>
 let v2 : Bool := !v1
 bif v2 then (
  some ([] : List Int)) else
 let v3 : Bool := decide (v0.2.1 = 0)
 bif v3 then (
  some ([] : List Int)) else
 let v4 : Bool := decide (v0.2.1 = 1)
 bif v4 then (
  (gget 0 v0.1.2.2.2 v0.2.2.1).bind fun v5 =>
  let v6 : List Int := [v5]
  some v6) else
 let v5 : Bool := decide (v0.2.1 = 2)
 bif v5 then (
  (gget (0, (0, [])) v0.1.2.1 v0.2.2.1).bind fun v6 =>
  (gapp 8 ([] : List Int) v6.2.2).bind fun v7 =>
  some v7) else
 (spec_l28Pins (v0.1, v0.2.2.2)).bind fun v6 =>
 some v6
noncomputable def impl_onceEach (v0 : List Int) : Option Bool :=
 let v1 : Int := ((v0).length : Int)
 Pu.loop (fun (v2 : Int) =>
  let v3 : Bool := decide (v2 < v1)
  bif v3 then (
   (gget 0 v0 v2).bind fun v4 =>
   let v5 : Bool := decide (v4 ≠ 1)
   bif v5 then (
    Option.map Sum.inr (
     some false)) else
   let v6 : Int := wrap .i64 (v2 + 1)
   some (.inl v6)) else
  Option.map Sum.inr (
   some true)) 0
noncomputable def laws_markBlockS (v0 : (List (Int × (Int × List (Int × Int))) × Int)) : Option (Int × List (Int × (Int × List (Int × Int)))) :=
 Pu.loop (fun (v1 : (Int × (Int × List (Int × (Int × List (Int × Int)))))) =>
  let v2 : Int := ((v1.2.2).length : Int)
  let v3 : Bool := decide (v1.2.1 < v2)
  bif v3 then (
   (gin (v1.2.2).length v1.2.1).bind fun _ =>
   (gget (0, (0, [])) v1.2.2 v1.2.1).bind fun v5 =>
   let v6 : (Int × (Int × List (Int × Int))) := (v1.1, v5.2)
   let v7 : List (Int × (Int × List (Int × Int))) := gset v1.2.2 v1.2.1 v6
   let v8 : Int := wrap .i64 (v1.1 + 1)
   (gin (v7).length v1.2.1).bind fun _ =>
   (gget (0, (0, [])) v7 v1.2.1).bind fun v10 =>
   let v11 : (Int × (Int × List (Int × Int))) := (v10.1, (v8, v10.2.2))
   let v12 : List (Int × (Int × List (Int × Int))) := gset v7 v1.2.1 v11
   let v13 : Int := wrap .i64 (v8 + 1)
   (gin (v12).length v1.2.1).bind fun _ =>
   (gget (0, (0, [])) v12 v1.2.1).bind fun v15 =>
   (gget (0, (0, [])) v12 v1.2.1).bind fun v16 =>
   (laws_markLeS (v16.2.2, v13)).bind fun v17 =>
   (gget (0, (0, [])) v12 v1.2.1).bind fun v18 =>
   let v19 : (Int × (Int × List (Int × Int))) := (v18.1, (v18.2.1, v17.2))
   let v20 : List (Int × (Int × List (Int × Int))) := gset v12 v1.2.1 v19
   let v21 : Int := wrap .i64 (v1.2.1 + 1)
   some (.inl (v17.1, (v21, v20)))) else
  Option.map Sum.inr (
   some (v1.1, v1.2.2))) (v0.2, (0, v0.1))
noncomputable def laws_heldConnS (v0 : (List (Int × ((Int × Int) × List (Int × Int))) × Int)) : Option Int :=
 Pu.loop (fun (v1 : (Int × Int)) =>
  let v2 : Int := ((v0.1).length : Int)
  let v3 : Bool := decide (v1.2 < v2)
  bif v3 then (
   (gget (0, ((0, 0), [])) v0.1 v1.2).bind fun v4 =>
   let v5 : Bool := decide (v4.1 ≠ v1.1)
   bif v5 then (
    Option.map Sum.inr (
     some (-1))) else
   let v6 : Int := wrap .i64 (v1.1 + 1)
   (gget (0, ((0, 0), [])) v0.1 v1.2).bind fun v7 =>
   let v8 : Bool := decide (v7.2.1.1 ≠ v6)
   bif v8 then (
    Option.map Sum.inr (
     some (-1))) else
   let v9 : Int := wrap .i64 (v6 + 1)
   (gget (0, ((0, 0), [])) v0.1 v1.2).bind fun v10 =>
   let v11 : Bool := decide (v10.2.1.2 ≠ v9)
   bif v11 then (
    Option.map Sum.inr (
     some (-1))) else
   let v12 : Int := wrap .i64 (v9 + 1)
   (gget (0, ((0, 0), [])) v0.1 v1.2).bind fun v13 =>
   (laws_heldPinS (v13.2.2, v12)).bind fun v14 =>
   let v15 : Bool := decide (v14 < 0)
   bif v15 then (
    Option.map Sum.inr (
     some (-1))) else
   let v16 : Int := wrap .i64 (v1.2 + 1)
   some (.inl (v14, v16))) else
  Option.map Sum.inr (
   some v1.1)) (v0.2, 0)
noncomputable def laws_szBlockS (v0 : (List (Int × (Int × List (Int × Int))) × Int)) : Option Int :=
 let v1 : Int := ((v0.1).length : Int)
 let v2 : Int := wrap .i64 (v0.2 - v1)
 let v3 : Bool := decide (v2 < 0)
 bif v3 then (
  some (-1)) else
 Pu.loop (fun (v4 : (Int × Int)) =>
  let v5 : Int := ((v0.1).length : Int)
  let v6 : Bool := decide (v4.2 < v5)
  bif v6 then (
   (gget (0, (0, [])) v0.1 v4.2).bind fun v7 =>
   (laws_szBlock (v7, v4.1)).bind fun v8 =>
   let v9 : Bool := decide (v8 < 0)
   bif v9 then (
    Option.map Sum.inr (
     some (-1))) else
   let v10 : Int := wrap .i64 (v4.2 + 1)
   some (.inl (v8, v10))) else
  Option.map Sum.inr (
   some v4.1)) (v2, 0)
noncomputable def laws_toBlockS (v0 : List (Int × (Int × List (Int × Int)))) : Option (List (Int × (Int × List (Int × Int)))) :=
 let v1 : Int := ((v0).length : Int)
 (gmake 40 ((0, (0, [])) : (Int × (Int × List (Int × Int)))) v1).bind fun v2 =>
 Pu.loop (fun (v3 : (Int × List (Int × (Int × List (Int × Int))))) =>
  let v4 : Int := ((v0).length : Int)
  let v5 : Bool := decide (v3.1 < v4)
  bif v5 then (
   (gget (0, (0, [])) v0 v3.1).bind fun v6 =>
   (laws_toBlock v6).bind fun v7 =>
   (gin (v3.2).length v3.1).bind fun _ =>
   (gget (0, (0, [])) v3.2 v3.1).bind fun v9 =>
   let v10 : (Int × (Int × List (Int × Int))) := v7
   let v11 : List (Int × (Int × List (Int × Int))) := gset v3.2 v3.1 v10
   let v12 : Int := wrap .i64 (v3.1 + 1)
   some (.inl (v12, v11))) else
  Option.map Sum.inr (
   some v3.2)) (0, v2)
noncomputable def laws_eqBlockS (v0 : (List (Int × (Int × List (Int × Int))) × List (Int × (Int × List (Int × Int))))) : Option Bool :=
 let v1 : Int := ((v0.1).length : Int)
 let v2 : Int := ((v0.2).length : Int)
 let v3 : Bool := decide (v1 ≠ v2)
 bif v3 then (
  some false) else
 Pu.loop (fun (v4 : Int) =>
  let v5 : Int := ((v0.1).length : Int)
  let v6 : Bool := decide (v4 < v5)
  bif v6 then (
   (gget (0, (0, [])) v0.1 v4).bind fun v7 =>
   (gget (0, (0, [])) v0.2 v4).bind fun v8 =>
   (laws_eqBlock (v7, v8)).bind fun v9 =>
   let v10 : Bool := !v9
   bif v10 then (
    Option.map Sum.inr (
     some false)) else
   let v11 : Int := wrap .i64 (v4 + 1)
   some (.inl v11)) else
  Option.map Sum.inr (
   some true)) 0
noncomputable def impl_PackOk (v0 : ((Int × (List (Int × (Int × List Int)) × (List (List Int × Int) × List Int))) × List (Int × (Int × List (Int × Int))))) : Option Bool :=
 (impl_LutNetOk v0.1).bind fun v1 =>
 let v2 : Bool := !v1
 bif v2 then (
  some false) else
 let v3 : Int := ((v0.2).length : Int)
 let v4 : Bool := decide (64 < v3)
 bif v4 then (
  some false) else
 joinO (
  let v5 : Int := ((v0.1.2.2.2).length : Int)
  both (
   (gmake 8 (0 : Int) v0.1.1).bind fun v6 =>
   (gmake 8 (0 : Int) v5).bind fun v7 =>
   some (.inl (v6, v7))) (
   (gmake 8 (0 : Int) v5).bind fun v6 =>
   (gmake 8 (0 : Int) v0.1.1).bind fun v7 =>
   some (.inl (v7, v6)))) (fun (v5 : (List Int × List Int)) =>
  joinO (
   let v6 : Int := ((v0.1.2.1).length : Int)
   let v7 : Int := ((v0.1.2.2.1).length : Int)
   both (
    (gmake 8 (0 : Int) v6).bind fun v8 =>
    (gmake 8 (0 : Int) v7).bind fun v9 =>
    some (.inl (v8, v9))) (
    (gmake 8 (0 : Int) v7).bind fun v8 =>
    (gmake 8 (0 : Int) v6).bind fun v9 =>
    some (.inl (v9, v8)))) (fun (v6 : (List Int × List Int)) =>
   let v7 : Int := ((v0.2).length : Int)
   Pu.loop (fun (v8 : (Int × (List Int × (List Int × (List Int × List Int))))) =>
    let v9 : Bool := decide (v8.1 < v7)
    bif v9 then (
     (gget (0, (0, [])) v0.2 v8.1).bind fun v10 =>
     (impl_blockOk (v0.1, v10)).bind fun v11 =>
     let v12 : Bool := !v11
     bif v12 then (
      Option.map Sum.inr (
       some false)) else
     joinO (
      let v13 : Bool := decide (v10.1 = 0)
      bif v13 then (
       (gin (v8.2.1).length v10.2.1).bind fun _ =>
       (gget 0 v8.2.1 v10.2.1).bind fun v15 =>
       let v16 : Int := wrap .i64 (v15 + 1)
       (gin (v8.2.1).length v10.2.1).bind fun _ =>
       (gget 0 v8.2.1 v10.2.1).bind fun v18 =>
       let v19 : Int := v16
       let v20 : List Int := gset v8.2.1 v10.2.1 v19
       some (.inl (v20, (v8.2.2.1, v8.2.2.2.1)))) else
      let v14 : Bool := decide (v10.1 = 1)
      bif v14 then (
       (gin (v8.2.2.1).length v10.2.1).bind fun _ =>
       (gget 0 v8.2.2.1 v10.2.1).bind fun v16 =>
       let v17 : Int := wrap .i64 (v16 + 1)
       (gin (v8.2.2.1).length v10.2.1).bind fun _ =>
       (gget 0 v8.2.2.1 v10.2.1).bind fun v19 =>
       let v20 : Int := v17
       let v21 : List Int := gset v8.2.2.1 v10.2.1 v20
       some (.inl (v8.2.1, (v21, v8.2.2.2.1)))) else
      let v15 : Bool := decide (v10.1 = 2)
      bif v15 then (
       (gin (v8.2.2.2.1).length v10.2.1).bind fun _ =>
       (gget 0 v8.2.2.2.1 v10.2.1).bind fun v17 =>
       let v18 : Int := wrap .i64 (v17 + 1)
       (gin (v8.2.2.2.1).length v10.2.1).bind fun _ =>
       (gget 0 v8.2.2.2.1 v10.2.1).bind fun v20 =>
       let v21 : Int := v18
       let v22 : List Int := gset v8.2.2.2.1 v10.2.1 v21
       some (.inl (v8.2.1, (v8.2.2.1, v22)))) else
      some (.inl (v8.2.1, (v8.2.2.1, v8.2.2.2.1)))) (fun (v13 : (List Int × (List Int × List Int))) =>
      let v14 : Int := ((v10.2.2).length : Int)
      Pu.loop (fun (v15 : (Int × (List Int × List Int))) =>
       let v16 : Bool := decide (v15.1 < v14)
       bif v16 then (
        (gget (0, 0) v10.2.2 v15.1).bind fun v17 =>
        let v18 : Bool := decide (0 ≤ v17.1)
        bif v18 then (
         (gin (v15.2.2).length v17.1).bind fun _ =>
         (gget 0 v15.2.2 v17.1).bind fun v20 =>
         let v21 : Int := wrap .i64 (v20 + 1)
         (gin (v15.2.2).length v17.1).bind fun _ =>
         (gget 0 v15.2.2 v17.1).bind fun v23 =>
         let v24 : Int := v21
         let v25 : List Int := gset v15.2.2 v17.1 v24
         let v26 : Bool := decide (0 ≤ v17.2)
         bif v26 then (
          (gin (v15.2.1).length v17.2).bind fun _ =>
          (gget 0 v15.2.1 v17.2).bind fun v28 =>
          let v29 : Int := wrap .i64 (v28 + 1)
          (gin (v15.2.1).length v17.2).bind fun _ =>
          (gget 0 v15.2.1 v17.2).bind fun v31 =>
          let v32 : Int := v29
          let v33 : List Int := gset v15.2.1 v17.2 v32
          let v34 : Int := wrap .i64 (v15.1 + 1)
          some (.inl (v34, (v33, v25)))) else
         let v27 : Int := wrap .i64 (v15.1 + 1)
         some (.inl (v27, (v15.2.1, v25)))) else
        let v19 : Bool := decide (0 ≤ v17.2)
        bif v19 then (
         (gin (v15.2.1).length v17.2).bind fun _ =>
         (gget 0 v15.2.1 v17.2).bind fun v21 =>
         let v22 : Int := wrap .i64 (v21 + 1)
         (gin (v15.2.1).length v17.2).bind fun _ =>
         (gget 0 v15.2.1 v17.2).bind fun v24 =>
         let v25 : Int := v22
         let v26 : List Int := gset v15.2.1 v17.2 v25
         let v27 : Int := wrap .i64 (v15.1 + 1)
         some (.inl (v27, (v26, v15.2.2)))) else
        let v20 : Int := wrap .i64 (v15.1 + 1)
        some (.inl (v20, v15.2))) else
       Option.map Sum.inr (
        let v17 : Int := wrap .i64 (v8.1 + 1)
        some (.inl (v17, (v13.1, (v13.2.1, v15.2)))))) (0, (v13.2.2, v8.2.2.2.2)))) else
    Option.map Sum.inr (
     (impl_onceEach v8.2.1).bind fun v10 =>
     bif v10 then (
      (impl_onceEach v8.2.2.1).bind fun v11 =>
      bif v11 then (
       (impl_onceEach v8.2.2.2.1).bind fun v12 =>
       bif v12 then (
        (impl_onceEach v8.2.2.2.2).bind fun v13 =>
        some v13) else
       some false) else
      some false) else
     some false)) (0, (v5.1, (v5.2, v6)))))
noncomputable def spec_PackOk (v0 : ((Int × (List (Int × (Int × List Int)) × (List (List Int × Int) × List Int))) × List (Int × (Int × List (Int × Int))))) : Option Bool :=
 (spec_LutNetOk v0.1).bind fun v1 =>
 let v2 : Bool := !v1
 bif v2 then (
  some false) else
 let v3 : Int := ((v0.2).length : Int)
 let v4 : Bool := decide (64 < v3)
 bif v4 then (
  some false) else
 (gmake 8 (0 : Int) v0.1.1).bind fun v5 =>
 let v6 : Int := ((v0.1.2.2.2).length : Int)
 (gmake 8 (0 : Int) v6).bind fun v7 =>
 let v8 : Int := ((v0.1.2.1).length : Int)
 (gmake 8 (0 : Int) v8).bind fun v9 =>
 let v10 : Int := ((v0.1.2.2.1).length : Int)
 (gmake 8 (0 : Int) v10).bind fun v11 =>
 Pu.loop (fun (v12 : (Int × (List Int × (List Int × (List Int × List Int))))) =>
  let v13 : Int := ((v0.2).length : Int)
  let v14 : Bool := decide (v12.1 < v13)
  bif v14 then (
   (gget (0, (0, [])) v0.2 v12.1).bind fun v15 =>
   (spec_BlockOk (v0.1, v15)).bind fun v16 =>
   let v17 : Bool := !v16
   bif v17 then (
    Option.map Sum.inr (
     some false)) else
   joinO (
    let v18 : Bool := decide (v15.1 = 0)
    bif v18 then (
     (gin (v12.2.1).length v15.2.1).bind fun _ =>
     (gget 0 v12.2.1 v15.2.1).bind fun v20 =>
     let v21 : Int := wrap .i64 (v20 + 1)
     (gin (v12.2.1).length v15.2.1).bind fun _ =>
     (gget 0 v12.2.1 v15.2.1).bind fun v23 =>
     let v24 : Int := v21
     let v25 : List Int := gset v12.2.1 v15.2.1 v24
     some (.inl (v25, (v12.2.2.1, v12.2.2.2.1)))) else
    let v19 : Bool := decide (v15.1 = 1)
    bif v19 then (
     (gin (v12.2.2.1).length v15.2.1).bind fun _ =>
     (gget 0 v12.2.2.1 v15.2.1).bind fun v21 =>
     let v22 : Int := wrap .i64 (v21 + 1)
     (gin (v12.2.2.1).length v15.2.1).bind fun _ =>
     (gget 0 v12.2.2.1 v15.2.1).bind fun v24 =>
     let v25 : Int := v22
     let v26 : List Int := gset v12.2.2.1 v15.2.1 v25
     some (.inl (v12.2.1, (v26, v12.2.2.2.1)))) else
    let v20 : Bool := decide (v15.1 = 2)
    bif v20 then (
     (gin (v12.2.2.2.1).length v15.2.1).bind fun _ =>
     (gget 0 v12.2.2.2.1 v15.2.1).bind fun v22 =>
     let v23 : Int := wrap .i64 (v22 + 1)
     (gin (v12.2.2.2.1).length v15.2.1).bind fun _ =>
     (gget 0 v12.2.2.2.1 v15.2.1).bind fun v25 =>
     let v26 : Int := v23
     let v27 : List Int := gset v12.2.2.2.1 v15.2.1 v26
     some (.inl (v12.2.1, (v12.2.2.1, v27)))) else
    some (.inl (v12.2.1, (v12.2.2.1, v12.2.2.2.1)))) (fun (v18 : (List Int × (List Int × List Int))) =>
    Pu.loop (fun (v19 : (Int × (List Int × List Int))) =>
     let v20 : Int := ((v15.2.2).length : Int)
     let v21 : Bool := decide (v19.1 < v20)
     bif v21 then (
      (gget (0, 0) v15.2.2 v19.1).bind fun v22 =>
      let v23 : Bool := decide (0 ≤ v22.1)
      bif v23 then (
       (gget (0, 0) v15.2.2 v19.1).bind fun v24 =>
       (gin (v19.2.2).length v24.1).bind fun _ =>
       (gget 0 v19.2.2 v24.1).bind fun v26 =>
       let v27 : Int := wrap .i64 (v26 + 1)
       (gin (v19.2.2).length v24.1).bind fun _ =>
       (gget 0 v19.2.2 v24.1).bind fun v29 =>
       let v30 : Int := v27
       let v31 : List Int := gset v19.2.2 v24.1 v30
       (gget (0, 0) v15.2.2 v19.1).bind fun v32 =>
       let v33 : Bool := decide (0 ≤ v32.2)
       bif v33 then (
        (gget (0, 0) v15.2.2 v19.1).bind fun v34 =>
        (gin (v19.2.1).length v34.2).bind fun _ =>
        (gget 0 v19.2.1 v34.2).bind fun v36 =>
        let v37 : Int := wrap .i64 (v36 + 1)
        (gin (v19.2.1).length v34.2).bind fun _ =>
        (gget 0 v19.2.1 v34.2).bind fun v39 =>
        let v40 : Int := v37
        let v41 : List Int := gset v19.2.1 v34.2 v40
        let v42 : Int := wrap .i64 (v19.1 + 1)
        some (.inl (v42, (v41, v31)))) else
       let v34 : Int := wrap .i64 (v19.1 + 1)
       some (.inl (v34, (v19.2.1, v31)))) else
      (gget (0, 0) v15.2.2 v19.1).bind fun v24 =>
      let v25 : Bool := decide (0 ≤ v24.2)
      bif v25 then (
       (gget (0, 0) v15.2.2 v19.1).bind fun v26 =>
       (gin (v19.2.1).length v26.2).bind fun _ =>
       (gget 0 v19.2.1 v26.2).bind fun v28 =>
       let v29 : Int := wrap .i64 (v28 + 1)
       (gin (v19.2.1).length v26.2).bind fun _ =>
       (gget 0 v19.2.1 v26.2).bind fun v31 =>
       let v32 : Int := v29
       let v33 : List Int := gset v19.2.1 v26.2 v32
       let v34 : Int := wrap .i64 (v19.1 + 1)
       some (.inl (v34, (v33, v19.2.2)))) else
      let v26 : Int := wrap .i64 (v19.1 + 1)
      some (.inl (v26, v19.2))) else
     Option.map Sum.inr (
      let v22 : Int := wrap .i64 (v12.1 + 1)
      some (.inl (v22, (v18.1, (v18.2.1, v19.2)))))) (0, (v18.2.2, v12.2.2.2.2)))) else
  Option.map Sum.inr (
   (gapp 8 v12.2.1 v12.2.2.1).bind fun v15 =>
   (gapp 8 v15 v12.2.2.2.1).bind fun v16 =>
   (gapp 8 v16 v12.2.2.2.2).bind fun v17 =>
   Pu.loop (fun (v18 : Int) =>
    let v19 : Int := ((v17).length : Int)
    let v20 : Bool := decide (v18 < v19)
    bif v20 then (
     (gin (v17).length v18).bind fun _ =>
     (gget 0 v17 v18).bind fun v22 =>
     let v23 : Bool := decide (v22 ≠ 1)
     bif v23 then (
      Option.map Sum.inr (
       some false)) else
     let v24 : Int := wrap .i64 (v18 + 1)
     some (.inl v24)) else
    Option.map Sum.inr (
     some true)) 0)) (0, (v5, (v7, (v9, v11))))
noncomputable def impl_ConnsOf (v0 : ((Int × (List (Int × (Int × List Int)) × (List (List Int × Int) × List Int))) × List (Int × (Int × List (Int × Int))))) : Option (List (Int × ((Int × Int) × List (Int × Int)))) :=
 (impl_PackOk v0).bind fun v1 =>
 let v2 : Bool := !v1
 bif v2 then (
  some ([] : List (Int × ((Int × Int) × List (Int × Int))))) else
 let v3 : Int := ((v0.2).length : Int)
 Pu.loop (fun (v4 : (List (List Int) × Int)) =>
  let v5 : Bool := decide (v4.2 < v3)
  bif v5 then (
   (gget (0, (0, [])) v0.2 v4.2).bind fun v6 =>
   (impl_pinNodes (v0.1, v6)).bind fun v7 =>
   let v8 : List (List Int) := [v7]
   (gapp 24 v4.1 v8).bind fun v9 =>
   let v10 : Int := wrap .i64 (v4.2 + 1)
   some (.inl (v9, v10))) else
  Option.map Sum.inr (
   let v6 : Int := ((v0.2).length : Int)
   Pu.loop (fun (v7 : (List (Int × ((Int × Int) × List (Int × Int))) × Int)) =>
    let v8 : Bool := decide (v7.2 < v6)
    bif v8 then (
     (gget (0, (0, [])) v0.2 v7.2).bind fun v9 =>
     (impl_outNodes (v0.1, v9)).bind fun v10 =>
     let v11 : Int := ((v10).length : Int)
     Pu.loop (fun (v12 : (Int × List (Int × ((Int × Int) × List (Int × Int))))) =>
      let v13 : Bool := decide (v12.1 < v11)
      bif v13 then (
       (gin (v10).length v12.1).bind fun _ =>
       (gget 0 v10 v12.1).bind fun v15 =>
       let v16 : Int := ((v4.1).length : Int)
       Pu.loop (fun (v17 : (Int × List (Int × Int))) =>
        let v18 : Bool := decide (v17.1 < v16)
        bif v18 then (
         (gin (v4.1).length v17.1).bind fun _ =>
         (gget [] v4.1 v17.1).bind fun v20 =>
         let v21 : Int := ((v20).length : Int)
         Pu.loop (fun (v22 : (Int × List (Int × Int))) =>
          let v23 : Bool := decide (v22.1 < v21)
          bif v23 then (
           (gget 0 v20 v22.1).bind fun v24 =>
           let v25 : Bool := decide (v24 = v15)
           bif v25 then (
            let v26 : List (Int × Int) := [(v17.1, v22.1)]
            (gapp 16 v22.2 v26).bind fun v27 =>
            let v28 : Int := wrap .i64 (v22.1 + 1)
            some (.inl (v28, v27))) else
           let v26 : Int := wrap .i64 (v22.1 + 1)
           some (.inl (v26, v22.2))) else
          Option.map Sum.inr (
           let v24 : Int := wrap .i64 (v17.1 + 1)
           some (.inl (v24, v22.2)))) (0, v17.2)) else
        Option.map Sum.inr (
         let v19 : Int := ((v17.2).length : Int)
         let v20 : Bool := decide (0 < v19)
         bif v20 then (
          let v21 : List (Int × ((Int × Int) × List (Int × Int))) := [(v15, ((v7.2, v12.1), v17.2))]
          (gapp 48 v12.2 v21).bind fun v22 =>
          let v23 : Int := wrap .i64 (v12.1 + 1)
          some (.inl (v23, v22))) else
         let v21 : Int := wrap .i64 (v12.1 + 1)
         some (.inl (v21, v12.2)))) (0, ([] : List (Int × Int)))) else
      Option.map Sum.inr (
       let v14 : Int := wrap .i64 (v7.2 + 1)
       some (.inl (v12.2, v14)))) (0, v7.1)) else
    Option.map Sum.inr (
     some v7.1)) (([] : List (Int × ((Int × Int) × List (Int × Int)))), 0))) (([] : List (List Int)), 0)
noncomputable def spec_ConnsOf (v0 : ((Int × (List (Int × (Int × List Int)) × (List (List Int × Int) × List Int))) × List (Int × (Int × List (Int × Int))))) : Option (List (Int × ((Int × Int) × List (Int × Int)))) :=
 (spec_PackOk v0).bind fun v1 =>
 let v2 : Bool := !v1
 bif v2 then (
  some ([] : List (Int × ((Int × Int) × List (Int × Int))))) else
 Pu.loop (fun (v3 : (Int × List (List Int))) =>
  let v4 : Int := ((v0.2).length : Int)
  let v5 : Bool := decide (v3.1 < v4)
  bif v5 then (
   (gget (0, (0, [])) v0.2 v3.1).bind fun v6 =>
   (spec_PinNodes (v0.1, v6)).bind fun v7 =>
   let v8 : List (List Int) := [v7]
   (gapp 24 v3.2 v8).bind fun v9 =>
   let v10 : Int := wrap .i64 (v3.1 + 1)
   some (.inl (v10, v9))) else
  Option.map Sum.inr (
   Pu.loop (fun (v6 : (Int × List (Int × ((Int × Int) × List (Int × Int))))) =>
    let v7 : Int := ((v0.2).length : Int)
    let v8 : Bool := decide (v6.1 < v7)
    bif v8 then (
     (gget (0, (0, [])) v0.2 v6.1).bind fun v9 =>
     (spec_OutNodes (v0.1, v9)).bind fun v10 =>
     Pu.loop (fun (v11 : (Int × List (Int × ((Int × Int) × List (Int × Int))))) =>
      let v12 : Int := ((v10).length : Int)
      let v13 : Bool := decide (v11.1 < v12)
      bif v13 then (
       (gin (v10).length v11.1).bind fun _ =>
       (gget 0 v10 v11.1).bind fun v15 =>
       Pu.loop (fun (v16 : (Int × List (Int × Int))) =>
        let v17 : Int := ((v3.2).length : Int)
        let v18 : Bool := decide (v16.1 < v17)
        bif v18 then (
         Pu.loop (fun (v19 : (Int × List (Int × Int))) =>
          (gin (v3.2).length v16.1).bind fun _ =>
          (gget [] v3.2 v16.1).bind fun v21 =>
          let v22 : Int := ((v21).length : Int)
          let v23 : Bool := decide (v19.1 < v22)
          bif v23 then (
           (gin (v3.2).length v16.1).bind fun _ =>
           (gget [] v3.2 v16.1).bind fun v25 =>
           (gget 0 v25 v19.1).bind fun v26 =>
           (gin (v10).length v11.1).bind fun _ =>
           (gget 0 v10 v11.1).bind fun v28 =>
           let v29 : Bool := decide (v26 = v28)
           bif v29 then (
            let v30 : List (Int × Int) := [(v16.1, v19.1)]
            (gapp 16 v19.2 v30).bind fun v31 =>
            let v32 : Int := wrap .i64 (v19.1 + 1)
            some (.inl (v32, v31))) else
           let v30 : Int := wrap .i64 (v19.1 + 1)
           some (.inl (v30, v19.2))) else
          Option.map Sum.inr (
           let v24 : Int := wrap .i64 (v16.1 + 1)
           some (.inl (v24, v19.2)))) (0, v16.2)) else
        Option.map Sum.inr (
         let v19 : Int := ((v16.2).length : Int)
         let v20 : Bool := decide (0 < v19)
         bif v20 then (
          let v21 : List (Int × ((Int × Int) × List (Int × Int))) := [(v15, ((v6.1, v11.1), v16.2))]
          (gapp 48 v11.2 v21).bind fun v22 =>
          let v23 : Int := wrap .i64 (v11.1 + 1)
          some (.inl (v23, v22))) else
         let v21 : Int := wrap .i64 (v11.1 + 1)
         some (.inl (v21, v11.2)))) (0, ([] : List (Int × Int)))) else
      Option.map Sum.inr (
       let v14 : Int := wrap .i64 (v6.1 + 1)
       some (.inl (v14, v11.2)))) (0, v6.2)) else
    Option.map Sum.inr (
     some v6.2)) (0, ([] : List (Int × ((Int × Int) × List (Int × Int))))))) (0, ([] : List (List Int)))
noncomputable def laws_FnExactConnsOf (v0 : ((Int × (List (Int × (Int × List Int)) × (List (List Int × Int) × List Int))) × List (Int × (Int × List (Int × Int))))) : Option Bool :=
 (laws_szLutNet (v0.1, 1048576)).bind fun v1 =>
 let v2 : Bool := decide (v1 < 0)
 bif v2 then (
  some true) else
 (laws_szBlockS (v0.2, v1)).bind fun v3 =>
 let v4 : Bool := decide (v3 < 0)
 bif v4 then (
  some true) else
 (laws_toLutNet v0.1).bind fun v5 =>
 (laws_toBlockS v0.2).bind fun v6 =>
 (spec_ConnsOf (v5, v6)).bind fun v7 =>
 (laws_toLutNet v0.1).bind fun v8 =>
 (laws_toBlockS v0.2).bind fun v9 =>
 (impl_ConnsOf (v8, v9)).bind fun v10 =>
 (laws_eqConnS (v10, v7)).bind fun v11 =>
 let v12 : Bool := !v11
 bif v12 then (
  some false) else
 (laws_toLutNet v0.1).bind fun v13 =>
 (laws_eqLutNet (v8, v13)).bind fun v14 =>
 let v15 : Bool := !v14
 bif v15 then (
  some false) else
 (laws_toBlockS v0.2).bind fun v16 =>
 (laws_eqBlockS (v9, v16)).bind fun v17 =>
 let v18 : Bool := !v17
 bif v18 then (
  some false) else
 (laws_markLutNet (v8, 1)).bind fun v19 =>
 (laws_markBlockS (v9, v19.1)).bind fun v20 =>
 let v21 : Bool := decide (v20.1 < 0)
 bif v21 then (
  some false) else
 (laws_eqConnS (v10, v7)).bind fun v22 =>
 let v23 : Bool := !v22
 bif v23 then (
  some false) else
 (laws_markConnS (v10, 1)).bind fun v24 =>
 (laws_heldConnS (v24.2, 1)).bind fun v25 =>
 let v26 : Bool := decide (v25 < 0)
 bif v26 then (
  some false) else
 let v27 : Bool := decide (v25 ≠ v24.1)
 bif v27 then (
  some false) else
 (laws_toLutNet v0.1).bind fun v28 =>
 (laws_toBlockS v0.2).bind fun v29 =>
 (impl_ConnsOf (v28, v29)).bind fun v30 =>
 (laws_eqConnS (v30, v7)).bind fun v31 =>
 let v32 : Bool := !v31
 bif v32 then (
  some false) else
 (laws_heldConnS (v24.2, 1)).bind fun v33 =>
 let v34 : Bool := decide (v33 < 0)
 bif v34 then (
  some false) else
 let v35 : Bool := decide (v33 ≠ v24.1)
 bif v35 then (
  some false) else
 some true
end Go.Pf
