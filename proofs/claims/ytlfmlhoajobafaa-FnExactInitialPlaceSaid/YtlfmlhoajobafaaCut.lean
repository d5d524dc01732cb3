/-
  Own work. Cuts by a line, plainly.
-/
import Derived.Test.YtlfmlhoajobafaaDve
namespace Go.Pf
open Go Go.Pu
set_option linter.unusedVariables false

def lastT (d : Int × (Int × (Int × Int))) (n : Int) : Int := stp d (nTile d n) (wDir d n) (1 + wTrk d n % 2)
def side (d : Int × (Int × (Int × Int))) (row : Bool) (c t : Int) : Bool := bif row then decide (t / d.1 ≤ c) else decide (t % d.1 ≤ c)
def crossP (d : Int × (Int × (Int × Int))) (row : Bool) (c n : Int) : Bool := decide (isWireP d n) && (side d row c (nTile d n) != side d row c (lastT d n))
theorem stp_ok {d : Int × (Int × (Int × Int))} {t dir len : Int} (h : DOk d) (h0 : 0 ≤ stp d t dir len) : stp d t dir len % d.1 = stpX d t dir len ∧ stp d t dir len / d.1 = stpY d t dir len ∧ stp d t dir len < d.1 * d.2.1 ∧ ((0 ≤ stpX d t dir len ∧ stpX d t dir len ≤ d.1 - 1) ∧ (0 ≤ stpY d t dir len ∧ stpY d t dir len ≤ d.2.1 - 1)) := by
  have hw := h.1
  have e : stp d t dir len = if (0 ≤ stpX d t dir len ∧ stpX d t dir len ≤ d.1 - 1) ∧ (0 ≤ stpY d t dir len ∧ stpY d t dir len ≤ d.2.1 - 1) then stpY d t dir len * d.1 + stpX d t dir len else -1 := rfl
  by_cases q : (0 ≤ stpX d t dir len ∧ stpX d t dir len ≤ d.1 - 1) ∧ (0 ≤ stpY d t dir len ∧ stpY d t dir len ≤ d.2.1 - 1)
  · rw [if_pos q] at e
    rw [e]
    generalize stpX d t dir len = x at *
    generalize stpY d t dir len = y at *
    have e1 : (y * d.1 + x) % d.1 = x := by
      rw [Int.add_comm, Int.add_mul_emod_self_right]
      exact Int.emod_eq_of_lt (by omega) (by omega)
    have e2 : (y * d.1 + x) / d.1 = y := by
      rw [Int.add_comm, Int.add_mul_ediv_right _ _ (by omega)]
      rw [Int.ediv_eq_zero_of_lt (by omega) (by omega)]; omega
    refine ⟨e1, e2, ?_, q⟩
    have h1 : y * d.1 ≤ (d.2.1 - 1) * d.1 := Int.mul_le_mul_of_nonneg_right (by omega) (by omega)
    have h2 : (d.2.1 - 1) * d.1 = d.1 * d.2.1 - d.1 := by rw [Int.sub_mul, Int.one_mul, Int.mul_comm]
    omega
  · rw [if_neg q] at e; omega
theorem stp_mid {d : Int × (Int × (Int × Int))} {t dir : Int} (hdir : 0 ≤ dir ∧ dir ≤ 3) (h : DOk d) (ht0 : 0 ≤ t) (ht1 : t < d.1 * d.2.1) (h2 : 0 ≤ stp d t dir 2) : 0 ≤ stp d t dir 1 := by
  obtain ⟨⟨x0, x1⟩, ⟨y0, y1⟩, _⟩ := tile_xy h ht0 ht1
  obtain ⟨_, _, _, ⟨a1, a2⟩, ⟨b1, b2⟩⟩ := stp_ok h h2
  have hw := h.1
  have q : (0 ≤ stpX d t dir 1 ∧ stpX d t dir 1 ≤ d.1 - 1) ∧ (0 ≤ stpY d t dir 1 ∧ stpY d t dir 1 ≤ d.2.1 - 1) := by
    have hX : stpX d t dir 2 - t % d.1 = 2 * (stpX d t dir 1 - t % d.1) := by unfold stpX; split; omega; split <;> omega
    have hY : stpY d t dir 2 - t / d.1 = 2 * (stpY d t dir 1 - t / d.1) := by unfold stpY; split; omega; split <;> omega
    omega
  have e : stp d t dir 1 = if (0 ≤ stpX d t dir 1 ∧ stpX d t dir 1 ≤ d.1 - 1) ∧ (0 ≤ stpY d t dir 1 ∧ stpY d t dir 1 ≤ d.2.1 - 1) then stpY d t dir 1 * d.1 + stpX d t dir 1 else -1 := rfl
  rw [if_pos q] at e
  have h1 : 0 ≤ stpY d t dir 1 * d.1 := Int.mul_nonneg q.2.1 (by omega)
  omega
theorem side_mono {d : Int × (Int × (Int × Int))} {t dir : Int} (row : Bool) (c : Int) (h : DOk d) (ht0 : 0 ≤ t) (ht1 : t < d.1 * d.2.1) (h2 : 0 ≤ stp d t dir 2) (h1 : 0 ≤ stp d t dir 1) (hs : side d row c t ≠ side d row c (stp d t dir 1)) : side d row c t ≠ side d row c (stp d t dir 2) := by
  obtain ⟨e1, e2, _, _⟩ := stp_ok h h1
  obtain ⟨g1, g2, _, _⟩ := stp_ok h h2
  have hX : stpX d t dir 2 - t % d.1 = 2 * (stpX d t dir 1 - t % d.1) := by unfold stpX; split; omega; split <;> omega
  have hY : stpY d t dir 2 - t / d.1 = 2 * (stpY d t dir 1 - t / d.1) := by unfold stpY; split; omega; split <;> omega
  cases row
  · simp only [side, cond_false, e1, g1, ne_eq, decide_eq_decide] at hs ⊢
    omega
  · simp only [side, cond_true, e2, g2, ne_eq, decide_eq_decide] at hs ⊢
    omega
def cutTo (d : Int × (Int × (Int × Int))) (row : Bool) (c : Int) (n : Nat) : List Int := ((List.range n).map fun (t : Nat) => (t : Int)).filter (crossP d row c)
theorem cutTo_succ (d : Int × (Int × (Int × Int))) (row : Bool) (c : Int) (n : Nat) : cutTo d row c (n + 1) = bif crossP d row c n then cutTo d row c n ++ [(n : Int)] else cutTo d row c n := by
  unfold cutTo
  rw [List.range_succ, List.map_append, List.filter_append]
  cases h : crossP d row c n
  · simp [h]
  · simp [h]
theorem cutTo_len (d : Int × (Int × (Int × Int))) (row : Bool) (c : Int) (n : Nat) : (cutTo d row c n).length ≤ n := by
  unfold cutTo
  refine Nat.le_trans (List.length_filter_le _ _) ?_
  simp
def cutP (d : Int × (Int × (Int × Int))) (row : Bool) (c : Int) : List Int := cutTo d row c (nodesN d).toNat
/-- A wire: its tile, its last tile. -/
theorem wire_all {d : Int × (Int × (Int × Int))} {n : Int} (h : isWireP d n) : (0 ≤ nTile d n ∧ nTile d n < d.1 * d.2.1) ∧ (0 ≤ wDir d n ∧ wDir d n ≤ 3) ∧ (0 ≤ wTrk d n ∧ wTrk d n ≤ 3) ∧ 0 ≤ lastT d n ∧ (0 ≤ n ∧ n ≤ 827) := by
  have hd := h.1.1
  obtain ⟨⟨ht0, ht1⟩, _, _⟩ := node_tp hd h.1.2.1 h.1.2.2.1
  obtain ⟨hdir, ⟨hk0, hk1⟩, _⟩ := wire_dt hd h.1.2.1 h.2 h.1.2.2.1
  have hT := hd.2.2.1
  have h4 := h.1.2.2.2
  have h7 := h.2
  have hn := nodesN_le hd
  have h3 := h.1.2.2.1
  rw [if_neg (by omega), if_neg (by omega)] at h4
  exact ⟨⟨ht0, ht1⟩, hdir, ⟨hk0, by omega⟩, h4, h.1.2.1, by omega⟩
theorem reach_get (d : Int × (Int × (Int × Int))) (n : Int) (k j : Nat) (h : j < k) : (reach d n k)[j]? = some (stp d (nTile d n) (wDir d n) ((j : Int) + 1)) := by
  unfold reach; rw [List.getElem?_map, List.getElem?_range h]; rfl
theorem reaches_last {d : Int × (Int × (Int × Int))} {n : Int} (h : isWireP d n) : ∃ m : Nat, (reaches d n).length = m + 1 ∧ (m = 0 ∨ m = 1) ∧ gget 0 (reaches d n) (m : Int) = some (lastT d n) := by
  obtain ⟨_, _, ⟨hk0, hk1⟩, _, _⟩ := wire_all h
  unfold reaches
  rw [if_pos h]
  refine ⟨(wTrk d n % 2).toNat, by rw [reach_len]; omega, by omega, ?_⟩
  have hm : ((wTrk d n % 2).toNat) < (reach d n (1 + wTrk d n % 2).toNat).length := by rw [reach_len]; omega
  have e := reach_get d n (1 + wTrk d n % 2).toNat (wTrk d n % 2).toNat (by omega)
  rw [List.getElem?_eq_getElem hm] at e
  rw [gget_nat hm, e]
  unfold lastT
  congr 2
  omega
theorem line_spec (d : Int × (Int × (Int × Int))) (row : Bool) (c : Int) (h : DOk d) : spec_l35Line (d, (row, c)) = some (cutP d row c) := by
  unfold spec_l35Line cutP
  have hn := nodesN_le h
  have hw := h.1
  have hp := per_le h
  refine loop_upto (nodesN d).toNat (fun n => ((n : Int), cutTo d row c n)) (fun n hn1 => ?_) ?_
  · have hcl := cutTo_len d row c n
    dsimp only
    rw [routeNodes_spec, if_pos h]
    simp only [Option.bind_some]
    rw [dt (by omega), cond_true, reaches_spec, cutTo_succ]
    simp only [Option.bind_some]
    rw [wrap_ok (z := (n : Int) + 1) (by omega)]
    by_cases hq : isWireP d n
    · obtain ⟨⟨ht0, ht1⟩, _, _, hl0, _⟩ := wire_all hq
      obtain ⟨m, hm, hm1, hg⟩ := reaches_last hq
      have hms := (stp_ok h hl0).2.2.1
      have hmul := mul_le36 h.1 h.2.1
      have hl1 : lastT d n ≤ 36 := by
        have : lastT d n < d.1 * d.2.1 := hms
        omega
      rw [hm, df (by omega), cond_false, per_spec h]
      simp only [Option.bind_some]
      rw [gdiv_nn (by omega) (by omega) (by omega), wrap_ok (z := ((m + 1 : Nat) : Int) - 1) (by omega), show ((m + 1 : Nat) : Int) - 1 = (m : Int) from by omega, gin_nat (by omega), hg]
      simp only [Option.bind_some]
      have e : (n : Int) / per d = nTile d n := rfl
      rw [e, grem_nn ht0 (by omega), grem_nn hl0 (by omega), gdiv_nn ht0 (by omega) (by omega), gdiv_nn hl0 (by omega) (by omega)]
      simp only [Option.bind_some]
      rw [gapp_ok (by simp; omega)]
      unfold crossP
      rw [dt hq, Bool.true_and]
      cases row
      · simp only [cond_false, side, Bool.true_xor, bne]
        cases (!(decide (nTile d n % d.1 ≤ c) == decide (lastT d n % d.1 ≤ c))) <;> rfl
      · simp only [cond_true, side, Bool.true_xor, bne]
        cases (!(decide (nTile d n / d.1 ≤ c) == decide (lastT d n / d.1 ≤ c))) <;> rfl
    · have e : reaches d n = [] := by unfold reaches; rw [if_neg hq]
      have e2 : crossP d row c n = false := by unfold crossP; rw [df hq]; rfl
      rw [e, e2]; rfl
  · dsimp only
    rw [routeNodes_spec, if_pos h]
    simp only [Option.bind_some]
    rw [df (by omega), cond_false]; rfl
theorem crossing_ok (d : Int × (Int × (Int × Int))) (row : Bool) (c : Int) (h : DOk d) (cl : Int → Option Bool) (hcl : ∀ t, 0 ≤ t → t ≤ 36 → cl t = some (side d row c t)) :
    Pu.loop (fun (v1 : (Int × List Int)) =>
    (impl_routeNodes d).bind fun v2 =>
    let v3 : Bool := decide (v1.1 < v2)
    bif v3 then (
      (impl_IsWire (d, v1.1)).bind fun v4 =>
      let v5 : Bool := !v4
      bif v5 then (
        let v6 : Int := wrap .i64 (v1.1 + 1)
        some (.inl (v6, v1.2))) else
      (impl_nodePlace (d, v1.1)).bind fun v6 =>
      (impl_WireReaches (d, v1.1)).bind fun v7 =>
      let v8 : Int := ((v7).length : Int)
      joinO (
        Pu.loop (fun (v9 : Int) =>
          let v10 : Bool := decide (v9 < v8)
          bif v10 then (
            (gin (v7).length v9).bind fun _ =>
            (gget 0 v7 v9).bind fun v12 =>
            (cl v6.1).bind fun v13 =>
            (cl v12).bind fun v14 =>
            let v15 : Bool := (true ^^ (v13 == v14))
            bif v15 then (
              let v16 : List Int := [v1.1]
              (gapp 8 v1.2 v16).bind fun v17 =>
              Option.map Sum.inr (
                some (.inl v17))) else
            let v16 : Int := wrap .i64 (v9 + 1)
            some (.inl v16)) else
          Option.map Sum.inr (
            some (.inl v1.2))) 0) (fun (v9 : List Int) =>
        let v10 : Int := wrap .i64 (v1.1 + 1)
        some (.inl (v10, v9)))) else
    Option.map Sum.inr (
      some v1.2)) (0, ([] : List Int)) = some (cutP d row c) := by
  unfold cutP
  have hn := nodesN_le h
  have hw := h.1
  have hp := per_le h
  have hmul := mul_le36 h.1 h.2.1
  refine loop_upto (nodesN d).toNat (fun n => ((n : Int), cutTo d row c n)) (fun n hn1 => ?_) ?_
  · have hcl2 := cutTo_len d row c n
    dsimp only
    rw [routeNodes_impl h]
    simp only [Option.bind_some]
    rw [dt (by omega), cond_true, isWire_impl, cutTo_succ]
    simp only [Option.bind_some]
    by_cases hq : isWireP d n
    · obtain ⟨⟨ht0, ht1⟩, hdir, hk, hl0, _⟩ := wire_all hq
      have hms := (stp_ok h hl0).2.2.1
      rw [dt hq, nplace_impl h (by omega) (by omega), reaches_impl]
      simp only [Bool.not_true, cond_false, Option.bind_some]
      have hlen2 := reaches_len d n
      have hrs : ∀ j (hj : j < (reaches d n).length), (reaches d n)[j] = stp d (nTile d n) (wDir d n) ((j : Int) + 1) ∧ 0 ≤ (reaches d n)[j] ∧ (reaches d n)[j] ≤ 36 := by
        intro j hj
        have e : (reaches d n)[j] = stp d (nTile d n) (wDir d n) ((j : Int) + 1) := by
          unfold reaches at hj ⊢
          simp only [if_pos hq, reach, List.getElem_map, List.getElem_range]
        have hjl : (j : Int) < 1 + wTrk d n % 2 := by
          unfold reaches at hj
          rw [if_pos hq, reach_len] at hj
          omega
        have h0 : 0 ≤ stp d (nTile d n) (wDir d n) ((j : Int) + 1) := by
          by_cases hl : (j : Int) + 1 = 1 + wTrk d n % 2
          · rw [hl]; exact hl0
          · have h2 : 1 + wTrk d n % 2 = 2 := by omega
            have : (j : Int) + 1 = 1 := by omega
            rw [this]
            exact stp_mid hdir h ht0 ht1 (by rw [← h2]; exact hl0)
        have h1 := (stp_ok h h0).2.2.1
        exact ⟨e, by rw [e]; exact h0, by rw [e]; omega⟩
      have inner : Pu.loop (fun (v9 : Int) =>
          bif decide (v9 < ((reaches d n).length : Int)) then (
            (gin (reaches d n).length v9).bind fun _ =>
            (gget 0 (reaches d n) v9).bind fun v12 =>
            (cl (nTile d n)).bind fun v13 =>
            (cl v12).bind fun v14 =>
            bif (true ^^ (v13 == v14)) then (
              (gapp 8 (cutTo d row c n) [(n : Int)]).bind fun v17 =>
              Option.map Sum.inr (
                some (Sum.inl (β := (Int × List Int) ⊕ List Int) v17))) else
            some (.inl (wrap .i64 (v9 + 1)))) else
          Option.map Sum.inr (
            some (.inl (cutTo d row c n)))) 0 = some (Sum.inl (bif crossP d row c n then cutTo d row c n ++ [(n : Int)] else cutTo d row c n)) := by
        refine Eq.trans (loop_all (reaches d n).length (fun j : Nat => (j : Int)) (fun j => if hj : j < (reaches d n).length then side d row c (nTile d n) == side d row c (reaches d n)[j] else true) (Sum.inl (cutTo d row c n ++ [(n : Int)])) (Sum.inl (cutTo d row c n)) (fun j hj hok => ?_) (fun j hj hok => ?_) ?_) ?_
        · rw [dif_pos hj] at hok
          obtain ⟨_, r0, r1⟩ := hrs j hj
          try dsimp only
          rw [dt (by omega), cond_true, gin_nat hj, gget_nat hj]
          simp only [Option.bind_some]
          rw [hcl _ ht0 (by omega), hcl _ r0 r1]
          simp only [Option.bind_some, hok, Bool.xor_self, cond_false]
          rw [wrap_ok (by omega)]; rfl
        · rw [dif_pos hj] at hok
          obtain ⟨_, r0, r1⟩ := hrs j hj
          try dsimp only
          rw [dt (by omega), cond_true, gin_nat hj, gget_nat hj]
          simp only [Option.bind_some]
          rw [hcl _ ht0 (by omega), hcl _ r0 r1, gapp_ok (by simp; omega)]
          simp only [Option.bind_some, hok, Bool.xor_false, cond_true]; rfl
        · try dsimp only
          rw [df (by omega), cond_false]; rfl
        · congr 1
          rw [all_range_list (reaches d n) (fun r => side d row c (nTile d n) == side d row c r) _ (fun j hj => by rw [dif_pos hj])]
          by_cases hx : side d row c (nTile d n) = side d row c (lastT d n)
          · have e2 : crossP d row c n = false := by unfold crossP; rw [dt hq, hx]; simp
            rw [e2, cond_false, if_pos]
            rw [List.all_eq_true]
            intro r hr
            obtain ⟨j, hj, rfl⟩ := List.getElem_of_mem hr
            obtain ⟨e, r0, r1⟩ := hrs j hj
            rw [beq_iff_eq]
            have hjl : (j : Int) < 1 + wTrk d n % 2 := by
              unfold reaches at hj
              rw [if_pos hq, reach_len] at hj
              omega
            by_cases hl : (j : Int) + 1 = 1 + wTrk d n % 2
            · rw [e, hl]; exact hx
            · have h2 : 1 + wTrk d n % 2 = 2 := by omega
              have h1 : (j : Int) + 1 = 1 := by omega
              rw [h1] at e
              refine Decidable.byContradiction fun hc => ?_
              rw [e] at hc r0
              have h20 : 0 ≤ stp d (nTile d n) (wDir d n) 2 := by rw [← h2]; exact hl0
              refine side_mono row c h ht0 ht1 h20 r0 hc ?_
              rw [← h2]; exact hx
          · have e2 : crossP d row c n = true := by unfold crossP; rw [dt hq]; simp [hx]
            rw [e2, cond_true, if_neg]
            rw [List.all_eq_true]
            intro hall
            obtain ⟨m, hm, _, hg⟩ := reaches_last hq
            have hm' : m < (reaches d n).length := by omega
            rw [gget_nat hm'] at hg
            have := hall _ (List.getElem_mem hm')
            rw [Option.some.inj hg, beq_iff_eq] at this
            exact hx this
      have e4 := congrArg (fun o => joinO o (fun (v9 : List Int) => (some (.inl (wrap .i64 ((n : Int) + 1), v9)) : Option ((Int × List Int) ⊕ List Int)))) inner
      refine Eq.trans e4 ?_
      show some _ = _
      rw [wrap_ok (by omega)]; rfl
    · have e2 : crossP d row c n = false := by unfold crossP; rw [df hq]; rfl
      rw [df hq, e2]
      simp only [Bool.not_false, cond_true]
      rw [wrap_ok (by omega)]; rfl
  · dsimp only
    rw [routeNodes_impl h]
    simp only [Option.bind_some]
    rw [df (by omega), cond_false]; rfl
def colP (d : Int × (Int × (Int × Int))) (c : Int) : List Int := if DOk d ∧ (0 ≤ c ∧ c ≤ d.1 - 2) then cutP d false c else []
def rowP (d : Int × (Int × (Int × Int))) (c : Int) : List Int := if DOk d ∧ (0 ≤ c ∧ c ≤ d.2.1 - 2) then cutP d true c else []
theorem cutP_len {d : Int × (Int × (Int × Int))} (h : DOk d) (row : Bool) (c : Int) : (cutP d row c).length ≤ 828 := by
  have hn := nodesN_le h
  have := cutTo_len d row c (nodesN d).toNat
  unfold cutP; omega
theorem colP_len (d : Int × (Int × (Int × Int))) (c : Int) : (colP d c).length ≤ 828 := by
  unfold colP; split
  · rename_i q; exact cutP_len q.1 _ _
  · simp
theorem rowP_len (d : Int × (Int × (Int × Int))) (c : Int) : (rowP d c).length ≤ 828 := by
  unfold rowP; split
  · rename_i q; exact cutP_len q.1 _ _
  · simp
theorem col_spec (d : Int × (Int × (Int × Int))) (c : Int) : spec_ColumnCut (d, c) = some (colP d c) := by
  unfold spec_ColumnCut colP
  dsimp only
  rw [devOk_spec]
  simp only [Option.bind_some]
  by_cases h : DOk d
  · have hw := h.1
    rw [dt h, wrap_ok (by omega), inR_spec]
    simp only [Bool.not_true, cond_false, Option.bind_some]
    by_cases q : 0 ≤ c ∧ c ≤ d.1 - 2
    · rw [dt q, if_pos ⟨h, q⟩, line_spec d false c h]; rfl
    · rw [df q, if_neg (fun e => q e.2)]; rfl
  · rw [df h, if_neg (fun e => h e.1)]; rfl
theorem row_spec (d : Int × (Int × (Int × Int))) (c : Int) : spec_RowCut (d, c) = some (rowP d c) := by
  unfold spec_RowCut rowP
  dsimp only
  rw [devOk_spec]
  simp only [Option.bind_some]
  by_cases h : DOk d
  · have hw := h.2.1
    rw [dt h, wrap_ok (by omega), inR_spec]
    simp only [Bool.not_true, cond_false, Option.bind_some]
    by_cases q : 0 ≤ c ∧ c ≤ d.2.1 - 2
    · rw [dt q, if_pos ⟨h, q⟩, line_spec d true c h]; rfl
    · rw [df q, if_neg (fun e => q e.2)]; rfl
  · rw [df h, if_neg (fun e => h e.1)]; rfl
theorem col_impl (d : Int × (Int × (Int × Int))) (c : Int) : impl_ColumnCut (d, c) = some (colP d c) := by
  unfold impl_ColumnCut colP
  dsimp only
  rw [devOk_impl]
  simp only [Option.bind_some]
  by_cases h : DOk d
  · have hw := h.1
    rw [dt h, wrap_ok (by omega), inR_impl]
    simp only [Bool.not_true, cond_false, Option.bind_some]
    by_cases q : 0 ≤ c ∧ c ≤ d.1 - 2
    · have e : impl_crossing_131129 (d, (d, c)) = some (cutP d false c) := crossing_ok d false c h (fun t => impl_ColumnCut_cl1 (t, (d, c))) (fun t t0 t1 => by
        unfold impl_ColumnCut_cl1
        dsimp only
        rw [grem_nn t0 (by omega)]; rfl)
      rw [dt q, if_pos ⟨h, q⟩, e]; rfl
    · rw [df q, if_neg (fun e => q e.2)]; rfl
  · rw [df h, if_neg (fun e => h e.1)]; rfl
theorem row_impl (d : Int × (Int × (Int × Int))) (c : Int) : impl_RowCut (d, c) = some (rowP d c) := by
  unfold impl_RowCut rowP
  dsimp only
  rw [devOk_impl]
  simp only [Option.bind_some]
  by_cases h : DOk d
  · have hw := h.2.1
    have hw1 := h.1
    rw [dt h, wrap_ok (by omega), inR_impl]
    simp only [Bool.not_true, cond_false, Option.bind_some]
    by_cases q : 0 ≤ c ∧ c ≤ d.2.1 - 2
    · have e : impl_crossing_132129 (d, (d, c)) = some (cutP d true c) := crossing_ok d true c h (fun t => impl_RowCut_cl1 (t, (d, c))) (fun t t0 t1 => by
        unfold impl_RowCut_cl1
        dsimp only
        rw [gdiv_nn t0 (by omega) (by omega)]; rfl)
      rw [dt q, if_pos ⟨h, q⟩, e]; rfl
    · rw [df q, if_neg (fun e => q e.2)]; rfl
  · rw [df h, if_neg (fun e => h e.1)]; rfl
end Go.Pf
