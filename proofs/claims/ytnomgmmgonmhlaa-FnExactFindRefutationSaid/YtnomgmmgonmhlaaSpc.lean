/-
  Own work. How many connections a cut separates; cuts that refute; the first that does.
-/
import Derived.Test.YtnomgmmgonmhlaaSep
import Derived.Test.YtnomgmmgonmhlaaLawConnsOk
namespace Go.Pf
open Go Go.Pu
set_option linter.unusedVariables false

noncomputable def cntS (d : Dev) (ps : List Int) (cns : List Conn) (cut : List Int) : Nat → Int
  | 0 => 0
  | k + 1 => cntS d ps cns cut k + (if sepP d ps (cns.getD k (0, ((0, 0), []))) cut = true then 1 else 0)
theorem cntS_le (d : Dev) (ps : List Int) (cns : List Conn) (cut : List Int) (k : Nat) : 0 ≤ cntS d ps cns cut k ∧ cntS d ps cns cut k ≤ k := by
  induction k with
  | zero => simp [cntS]
  | succ k ih => unfold cntS; split <;> omega
theorem cns_at {cns : List Conn} {k : Nat} (h : k < cns.length) : gget ((0, ((0, 0), [])) : Conn) cns (k : Int) = some (cns.getD k (0, ((0, 0), []))) ∧ cns.getD k (0, ((0, 0), [])) ∈ cns := by
  rw [gget_nat h, List.getD, List.getElem?_eq_getElem h]
  exact ⟨rfl, List.getElem_mem h⟩
theorem sepCount_spec (d : Dev) (ps : List Int) (cns : List Conn) (cut : List Int) (hp : PsR ps) (hc : CnsOk cns) (hcl : cut.length ≤ 1048576) : spec_SeparatedCount (d, (ps, (cns, cut))) = some (if wsP d cut = true then cntS d ps cns cut cns.length else 0) := by
  unfold spec_SeparatedCount
  rw [set_spec d cut hcl]
  simp only [Option.bind_some]
  cases hw : wsP d cut with
  | false => rfl
  | true =>
    obtain ⟨hd, hcut⟩ := wsP_wires hw
    have hn := nodesN_le hd
    rw [Bool.not_true, cond_false, graph_spec hd, if_pos rfl]
    simp only [Option.bind_some]
    refine loop_upto cns.length (fun k => (cntS d ps cns cut k, (k : Int))) (fun k hk => ?_) ?_
    · obtain ⟨g1, g2⟩ := cns_at hk
      have h1 := cntS_le d ps cns cut k
      have hl := hc.1
      have hlen : ((dG d).length : Int) = nodesN d := by rw [dG_len]; omega
      try dsimp only
      rw [dt (show (k : Int) < (cns.length : Int) by omega), cond_true, g1, hlen]
      simp only [Option.bind_some]
      rw [barred_spec hd cut (fun x hx => ⟨(hcut x hx).1.2.1, (hcut x hx).1.2.2.1⟩) hcl]
      simp only [Option.bind_some]
      rw [apart_spec hd ps _ cut hp (hc.2 _ g2), wrap_ok (z := (k : Int) + 1) (by omega)]
      simp only [Option.bind_some]
      have e : cntS d ps cns cut (k + 1) = cntS d ps cns cut k + (if sepP d ps (cns.getD k (0, ((0, 0), []))) cut = true then 1 else 0) := rfl
      rw [e]
      cases sepP d ps (cns.getD k (0, ((0, 0), []))) cut with
      | true =>
        have eb : spec_l07Bit true = some 1 := rfl
        rw [eb]
        simp only [Option.bind_some]
        rw [wrap_ok (by omega)]; rfl
      | false =>
        have eb : spec_l07Bit false = some 0 := rfl
        rw [eb]
        simp only [Option.bind_some]
        rw [wrap_ok (by omega)]; rfl
    · try dsimp only
      rw [df (by omega), cond_false]; rfl
theorem sepCnt_impl {d : Dev} (hd : DOk d) {R : List (List Int)} (hR : RevOk (nodesN d).toNat (dG d) R) (ps : List Int) (cns : List Conn) (cut : List Int) (hp : PsR ps) (hpl : ps.length ≤ 1048576) (hc : CnsOk cns) (hcut : ∀ x ∈ cut, isWireP d x) (hcl : cut.length ≤ 1048576) : impl_separatedCount (d, ((dG d, R), (ps, (cns, cut)))) = some (cntS d ps cns cut cns.length) := by
  unfold impl_separatedCount
  try dsimp only
  refine loop_upto cns.length (fun k => (cntS d ps cns cut k, (k : Int))) (fun k hk => ?_) ?_
  · obtain ⟨g1, g2⟩ := cns_at hk
    have h1 := cntS_le d ps cns cut k
    have hl := hc.1
    try dsimp only
    rw [dt (show (k : Int) < (cns.length : Int) by omega), cond_true, g1]
    simp only [Option.bind_some]
    rw [sep_impl hd hR ps _ cut hp hpl (hc.2 _ g2) hcut hcl, wrap_ok (z := (k : Int) + 1) (by omega)]
    simp only [Option.bind_some]
    have e : cntS d ps cns cut (k + 1) = cntS d ps cns cut k + (if sepP d ps (cns.getD k (0, ((0, 0), []))) cut = true then 1 else 0) := rfl
    rw [e]
    cases sepP d ps (cns.getD k (0, ((0, 0), []))) cut with
    | true => rw [cond_true, wrap_ok (by omega)]; rfl
    | false => rw [cond_false]; simp only [Bool.false_eq_true, if_false, Int.add_zero]; rfl
  · try dsimp only
    rw [df (by omega), cond_false]; rfl
theorem sepCount_impl (d : Dev) (ps : List Int) (cns : List Conn) (cut : List Int) (hp : PsR ps) (hpl : ps.length ≤ 1048576) (hc : CnsOk cns) (hcl : cut.length ≤ 1048576) : impl_SeparatedCount (d, (ps, (cns, cut))) = some (if wsP d cut = true then cntS d ps cns cut cns.length else 0) := by
  unfold impl_SeparatedCount
  rw [devOk_impl]
  simp only [Option.bind_some]
  by_cases hd : DOk d
  rotate_left
  · have : wsP d cut = false := by unfold wsP; rw [df hd, Bool.and_false]
    rw [df hd, this]; rfl
  rw [dt hd, Bool.not_true, cond_false, wset_impl d hd cut hcl]
  simp only [Option.bind_some]
  cases hw : wsP d cut with
  | false => rfl
  | true =>
    obtain ⟨_, hcut⟩ := wsP_wires hw
    obtain ⟨R, h1, h2⟩ := graph_impl hd
    rw [Bool.not_true, cond_false, h1]
    simp only [Option.bind_some]
    rw [sepCnt_impl hd h2 ps cns cut hp hpl hc hcut hcl]; rfl
noncomputable def refP (d : Dev) (ps : List Int) (cns : List Conn) (cut : List Int) : Bool := if wsP d cut = true then decide ((cut.length : Int) < cntS d ps cns cut cns.length) else false
theorem ref_spec (d : Dev) (ps : List Int) (cns : List Conn) (cut : List Int) (hp : PsR ps) (hc : CnsOk cns) (hcl : cut.length ≤ 1048576) : spec_CutRefutes (d, (ps, (cns, cut))) = some (refP d ps cns cut) := by
  unfold spec_CutRefutes refP
  rw [set_spec d cut hcl, sepCount_spec d ps cns cut hp hc hcl]
  simp only [Option.bind_some]
  cases hw : wsP d cut <;> rfl
theorem ref_impl (d : Dev) (ps : List Int) (cns : List Conn) (cut : List Int) (hp : PsR ps) (hpl : ps.length ≤ 1048576) (hc : CnsOk cns) (hcl : cut.length ≤ 1048576) : impl_CutRefutes (d, (ps, (cns, cut))) = some (refP d ps cns cut) := by
  unfold impl_CutRefutes refP
  rw [devOk_impl]
  simp only [Option.bind_some]
  by_cases hd : DOk d
  rotate_left
  · have : wsP d cut = false := by unfold wsP; rw [df hd, Bool.and_false]
    rw [df hd, cond_false, this]; rfl
  rw [dt hd, cond_true, wset_impl d hd cut hcl]
  simp only [Option.bind_some]
  cases hw : wsP d cut with
  | false => rfl
  | true =>
    obtain ⟨_, hcut⟩ := wsP_wires hw
    obtain ⟨R, h1, h2⟩ := graph_impl hd
    rw [cond_true, h1]
    simp only [Option.bind_some]
    rw [sepCnt_impl hd h2 ps cns cut hp hpl hc hcut hcl]; rfl

/-! ### The first cut that refutes -/
theorem asc_wsP {d : Dev} (hd : DOk d) {xs : List Int} (h : Asc xs) (hw : ∀ x ∈ xs, isWireP d x) : wsP d xs = true := by
  unfold wsP
  rw [dt hd, Bool.and_true, List.all_eq_true]
  intro k hk
  have hk := List.mem_range.1 hk
  refine decide_eq_true ⟨?_, fun k0 => ?_⟩
  · rw [← ns_at hk]; exact hw _ (List.getElem_mem hk)
  · have hk1 : k - 1 < xs.length := by omega
    rw [← ns_at hk, ← ns_at hk1]
    exact List.pairwise_iff_getElem.1 h (k - 1) k hk1 hk (by omega)
theorem cutTo_asc (d : Dev) (row : Bool) (c : Int) (n : Nat) : Asc (cutTo d row c n) ∧ (∀ x ∈ cutTo d row c n, x < (n : Int) ∧ isWireP d x) := by
  induction n with
  | zero => exact ⟨asc_nil, by simp [cutTo]⟩
  | succ n ih =>
    rw [cutTo_succ]
    cases h : crossP d row c n with
    | false => exact ⟨ih.1, fun x hx => ⟨by have := (ih.2 x hx).1; omega, (ih.2 x hx).2⟩⟩
    | true =>
      refine ⟨?_, fun x hx => ?_⟩
      · unfold Asc
        rw [cond_true, List.pairwise_append]
        exact ⟨ih.1, by simp, fun x hx y hy => by
          have := (ih.2 x hx).1
          have := List.mem_singleton.1 hy
          omega⟩
      · rcases List.mem_append.1 hx with q | q
        · exact ⟨by have := (ih.2 x q).1; omega, (ih.2 x q).2⟩
        · have := List.mem_singleton.1 q
          subst this
          refine ⟨by omega, ?_⟩
          unfold crossP at h
          rw [Bool.and_eq_true] at h
          exact of_decide_eq_true h.1
theorem cutP_ws {d : Dev} (hd : DOk d) (row : Bool) (c : Int) : wsP d (cutP d row c) = true := asc_wsP hd (cutTo_asc d row c _).1 (fun x hx => ((cutTo_asc d row c _).2 x hx).2)
theorem colP_ws {d : Dev} (hd : DOk d) (c : Int) : wsP d (colP d c) = true := by
  unfold colP; split
  · exact cutP_ws hd _ _
  · exact asc_wsP hd asc_nil (by simp)
theorem rowP_ws {d : Dev} (hd : DOk d) (c : Int) : wsP d (rowP d c) = true := by
  unfold rowP; split
  · exact cutP_ws hd _ _
  · exact asc_wsP hd asc_nil (by simp)
/-- The j-th cut that is tried. -/
def cutN (d : Dev) (j : Nat) : List Int := if (j : Int) < d.1 - 1 then colP d j else rowP d ((j : Int) - d.1 + 1)
theorem cutN_len (d : Dev) (j : Nat) : (cutN d j).length ≤ 828 := by
  unfold cutN; split
  · exact colP_len d _
  · exact rowP_len d _
theorem cutN_ws {d : Dev} (hd : DOk d) (j : Nat) : wsP d (cutN d j) = true := by
  unfold cutN; split
  · exact colP_ws hd _
  · exact rowP_ws hd _
noncomputable def frP (d : Dev) (ps : List Int) (cns : List Conn) : List Int × Bool :=
  if DOk d ∧ cnsP (ps.length : Int) cns = true then (match (List.range (d.1 + d.2.1 - 2).toNat).find? (fun j => refP d ps cns (cutN d j)) with | some j => (cutN d j, true) | none => ([], false)) else ([], false)
theorem fr_spec (d : Dev) (ps : List Int) (cns : List Conn) (hp : PsR ps) (hc : CnsOk cns) : spec_FindRefutation (d, (ps, cns)) = some (frP d ps cns) := by
  unfold spec_FindRefutation frP
  rw [devOk_spec]
  simp only [Option.bind_some]
  by_cases hd : DOk d
  rotate_left
  · rw [df hd, if_neg (fun e => hd e.1)]; rfl
  have hw := hd.1
  have hh := hd.2.1
  rw [dt hd, Bool.not_true, cond_false, cns_spec]
  simp only [Option.bind_some]
  cases hcn : cnsP (ps.length : Int) cns with
  | false => rw [if_neg (by simp)]; rfl
  | true =>
    rw [if_pos ⟨hd, rfl⟩, Bool.not_true, cond_false]
    have hlen := fun j => cutN_len d j
    refine loop_find (d.1 + d.2.1 - 2).toNat (fun j => (j : Int)) (fun j => refP d ps cns (cutN d j)) (fun j => (cutN d j, true)) ([], false) (fun j hj hok => ?_) (fun j hj hok => ?_) ?_
    · try dsimp only
      rw [wrap_ok (z := d.1 + d.2.1) (by omega), wrap_ok (z := d.1 + d.2.1 - 2) (by omega), dt (show (j : Int) < d.1 + d.2.1 - 2 by omega), cond_true, wrap_ok (z := d.1 - 1) (by omega), wrap_ok (z := (j : Int) + 1) (by omega)]
      unfold cutN at hok
      by_cases g : (j : Int) < d.1 - 1
      · rw [if_pos g] at hok
        rw [dt g, cond_true, col_spec]
        simp only [Option.bind_some]
        rw [ref_spec d ps cns _ hp hc (Nat.le_trans (colP_len d _) (by decide)), hok]; rfl
      · rw [if_neg g] at hok
        rw [df g, cond_false, wrap_ok (z := (j : Int) - d.1) (by omega), wrap_ok (z := (j : Int) - d.1 + 1) (by omega), row_spec]
        simp only [Option.bind_some]
        rw [ref_spec d ps cns _ hp hc (Nat.le_trans (rowP_len d _) (by decide)), hok]; rfl
    · try dsimp only
      rw [wrap_ok (z := d.1 + d.2.1) (by omega), wrap_ok (z := d.1 + d.2.1 - 2) (by omega), dt (show (j : Int) < d.1 + d.2.1 - 2 by omega), cond_true, wrap_ok (z := d.1 - 1) (by omega), wrap_ok (z := (j : Int) + 1) (by omega)]
      unfold cutN at hok ⊢
      by_cases g : (j : Int) < d.1 - 1
      · rw [if_pos g] at hok ⊢
        rw [dt g, cond_true, col_spec]
        simp only [Option.bind_some]
        rw [ref_spec d ps cns _ hp hc (Nat.le_trans (colP_len d _) (by decide)), hok]; rfl
      · rw [if_neg g] at hok ⊢
        rw [df g, cond_false, wrap_ok (z := (j : Int) - d.1) (by omega), wrap_ok (z := (j : Int) - d.1 + 1) (by omega), row_spec]
        simp only [Option.bind_some]
        rw [ref_spec d ps cns _ hp hc (Nat.le_trans (rowP_len d _) (by decide)), hok]; rfl
    · try dsimp only
      rw [wrap_ok (z := d.1 + d.2.1) (by omega), wrap_ok (z := d.1 + d.2.1 - 2) (by omega), df (by omega), cond_false]; rfl
theorem fr_impl (d : Dev) (ps : List Int) (cns : List Conn) (hp : PsR ps) (hpl : ps.length ≤ 1048576) (hc : CnsOk cns) : impl_FindRefutation (d, (ps, cns)) = some (frP d ps cns) := by
  unfold impl_FindRefutation frP
  rw [devOk_impl]
  simp only [Option.bind_some]
  by_cases hd : DOk d
  rotate_left
  · rw [df hd, if_neg (fun e => hd e.1)]; rfl
  have hw := hd.1
  have hh := hd.2.1
  rw [dt hd, Bool.not_true, cond_false, cns_impl]
  simp only [Option.bind_some]
  cases hcn : cnsP (ps.length : Int) cns with
  | false => rw [if_neg (by simp)]; rfl
  | true =>
    rw [if_pos ⟨hd, rfl⟩, Bool.not_true, cond_false]
    refine loop_upto (d.1 - 1).toNat (fun k => ((List.range k).map (cutN d), (k : Int))) (fun k hk => ?_) ?_
    · try dsimp only
      rw [wrap_ok (z := d.1 - 2) (by omega), dt (show (k : Int) ≤ d.1 - 2 by omega), cond_true, col_impl]
      simp only [Option.bind_some]
      rw [gapp_some (by simp; omega) (by simp; omega), wrap_ok (by omega)]
      simp only [Option.bind_some]
      have e : colP d (k : Int) = cutN d k := by unfold cutN; rw [if_pos (by omega)]
      rw [e, ← map_range_succ]; rfl
    try dsimp only
    rw [wrap_ok (z := d.1 - 2) (by omega), df (by omega), cond_false]
    refine (Option.map_eq_some_iff).2 ⟨_, ?_, rfl⟩
    have e0 : ((0 : Int), (List.range (d.1 - 1).toNat).map (cutN d)) = (fun k : Nat => ((k : Int), (List.range ((d.1 - 1).toNat + k)).map (cutN d))) 0 := rfl
    rw [e0]
    refine loop_upto (d.2.1 - 1).toNat (fun k => ((k : Int), (List.range ((d.1 - 1).toNat + k)).map (cutN d))) (fun k hk => ?_) ?_
    · try dsimp only
      rw [wrap_ok (z := d.2.1 - 2) (by omega), dt (show (k : Int) ≤ d.2.1 - 2 by omega), cond_true, row_impl]
      simp only [Option.bind_some]
      rw [gapp_some (by simp; omega) (by simp; omega), wrap_ok (by omega)]
      simp only [Option.bind_some]
      have e : rowP d (k : Int) = cutN d ((d.1 - 1).toNat + k) := by
        unfold cutN; rw [if_neg (by omega)]
        congr 1; omega
      rw [e, ← map_range_succ]; rfl
    try dsimp only
    rw [wrap_ok (z := d.2.1 - 2) (by omega), df (by omega), cond_false]
    refine (Option.map_eq_some_iff).2 ⟨_, ?_, rfl⟩
    obtain ⟨R, h1, h2⟩ := graph_impl hd
    rw [h1]
    simp only [Option.bind_some]
    have eM : (d.1 - 1).toNat + (d.2.1 - 1).toNat = (d.1 + d.2.1 - 2).toNat := by omega
    rw [eM]
    have hml : ((List.range (d.1 + d.2.1 - 2).toNat).map (cutN d)).length = (d.1 + d.2.1 - 2).toNat := by simp
    have hat : ∀ j, j < (d.1 + d.2.1 - 2).toNat → gget ([] : List Int) ((List.range (d.1 + d.2.1 - 2).toNat).map (cutN d)) (j : Int) = some (cutN d j) := by
      intro j hj
      rw [gget_nat (by rw [hml]; exact hj)]
      simp
    refine loop_find (d.1 + d.2.1 - 2).toNat (fun j => (j : Int)) (fun j => refP d ps cns (cutN d j)) (fun j => (cutN d j, true)) ([], false) (fun j hj hok => ?_) (fun j hj hok => ?_) ?_
    · try dsimp only
      have hl := cutN_len d j
      have hwj := cutN_ws hd j
      unfold refP at hok
      rw [if_pos hwj] at hok
      rw [hml, dt (show (j : Int) < ((d.1 + d.2.1 - 2).toNat : Int) by omega), cond_true, gin_nat hj, hat j hj]
      simp only [Option.bind_some]
      rw [sepCnt_impl hd h2 ps cns _ hp hpl hc (wsP_wires hwj).2 (by omega)]
      simp only [Option.bind_some]
      rw [hok, cond_false, wrap_ok (by omega)]; rfl
    · try dsimp only
      have hl := cutN_len d j
      have hwj := cutN_ws hd j
      unfold refP at hok
      rw [if_pos hwj] at hok
      rw [hml, dt (show (j : Int) < ((d.1 + d.2.1 - 2).toNat : Int) by omega), cond_true, gin_nat hj, hat j hj]
      simp only [Option.bind_some]
      rw [sepCnt_impl hd h2 ps cns _ hp hpl hc (wsP_wires hwj).2 (by omega)]
      simp only [Option.bind_some]
      rw [hok, cond_true]; rfl
    · try dsimp only
      rw [hml, df (by omega), cond_false]; rfl
theorem frP_len (d : Dev) (ps : List Int) (cns : List Conn) : (frP d ps cns).1.length ≤ 828 := by
  unfold frP; split
  · split
    · exact cutN_len d _
    · simp
  · simp
end Go.Pf
