/-
  Own work. Routing all connections, plainly: the rounds.
-/
import Derived.Test.YtjpkedhcbnklmaaRtb
namespace Go.Pf
open Go Go.Pu
set_option linter.unusedVariables false

abbrev XS := Bool × (Int × List Int)
noncomputable def xbI (u : List Int) (i : Int) (rs : List Rt) : XS → Option (XS ⊕ RO) := (fun (v22 : (Bool × (Int × List Int))) =>
                let v21 : Int := ((u).length : Int)
                let v23 : Bool := decide (v22.2.1 < v21)
                bif v23 then (
                  (gin (u).length v22.2.1).bind fun _ =>
                  (gget 0 u v22.2.1).bind fun v25 =>
                  let v26 : Bool := decide (1 < v25)
                  bif v26 then (
                    (gin (v22.2.2).length v22.2.1).bind fun _ =>
                    (gget 0 v22.2.2 v22.2.1).bind fun v28 =>
                    let v29 : Int := wrap .i64 (v25 - 1)
                    let v30 : Int := wrap .i64 (4 * v29)
                    let v31 : Int := wrap .i64 (v28 + v30)
                    (gin (v22.2.2).length v22.2.1).bind fun _ =>
                    (gget 0 v22.2.2 v22.2.1).bind fun v33 =>
                    let v34 : Int := v31
                    let v35 : List Int := gset v22.2.2 v22.2.1 v34
                    let v36 : Int := wrap .i64 (v22.2.1 + 1)
                    some (.inl (true, (v36, v35)))) else
                  let v27 : Int := wrap .i64 (v22.2.1 + 1)
                  some (.inl (v22.1, (v27, v22.2.2)))) else
                Option.map Sum.inr (
                  let v24 : Bool := !v22.1
                  bif v24 then (
                    Option.map Sum.inr (
                      some (rs, true))) else
                  let v25 : Int := wrap .i64 (i + 1)
                  some (.inl (v25, (v22.2.2, rs)))))
noncomputable def xbS (u : List Int) (i : Int) (rs : List Rt) : XS → Option (XS ⊕ SO) := (fun (v21 : (Bool × (Int × List Int))) =>
                let v22 : Int := ((u).length : Int)
                let v23 : Bool := decide (v21.2.1 < v22)
                bif v23 then (
                  (gin (u).length v21.2.1).bind fun _ =>
                  (gget 0 u v21.2.1).bind fun v25 =>
                  let v26 : Bool := decide (1 < v25)
                  bif v26 then (
                    (gin (v21.2.2).length v21.2.1).bind fun _ =>
                    (gget 0 v21.2.2 v21.2.1).bind fun v28 =>
                    (gin (u).length v21.2.1).bind fun _ =>
                    (gget 0 u v21.2.1).bind fun v30 =>
                    let v31 : Int := wrap .i64 (v30 - 1)
                    let v32 : Int := wrap .i64 (4 * v31)
                    let v33 : Int := wrap .i64 (v28 + v32)
                    (gin (v21.2.2).length v21.2.1).bind fun _ =>
                    (gget 0 v21.2.2 v21.2.1).bind fun v35 =>
                    let v36 : Int := v33
                    let v37 : List Int := gset v21.2.2 v21.2.1 v36
                    let v38 : Int := wrap .i64 (v21.2.1 + 1)
                    some (.inl (true, (v38, v37)))) else
                  let v27 : Int := wrap .i64 (v21.2.1 + 1)
                  some (.inl (v21.1, (v27, v21.2.2)))) else
                Option.map Sum.inr (
                  let v24 : Bool := !v21.1
                  bif v24 then (
                    Option.map Sum.inr (
                      some (rs, true))) else
                  let v25 : Int := wrap .i64 (i + 1)
                  some (.inl (v25, (rs, v21.2.2)))))
def xrT (u h : List Int) : Nat → Bool × List Int
  | 0 => (false, h)
  | n + 1 => if 1 < u.getD n 0 then (true, (xrT u h n).2.set n (wrap .i64 ((xrT u h n).2.getD n 0 + wrap .i64 (4 * wrap .i64 (u.getD n 0 - 1))))) else xrT u h n
theorem xrT_succ (u h : List Int) (n : Nat) : xrT u h (n + 1) = if 1 < u.getD n 0 then (true, (xrT u h n).2.set n (wrap .i64 ((xrT u h n).2.getD n 0 + wrap .i64 (4 * wrap .i64 (u.getD n 0 - 1))))) else xrT u h n := rfl
theorem xrT_len (u h : List Int) : ∀ n, (xrT u h n).2.length = h.length
  | 0 => rfl
  | n + 1 => by
    have := xrT_len u h n
    rw [xrT_succ]
    split
    · rw [List.length_set]; exact this
    · exact this
theorem xr_ok {N : Nat} {u h : List Int} {B : Int} (hu : ∀ x, x < N → 0 ≤ nsAt u x ∧ nsAt u x ≤ 100) (hh : HsOk N B h) (hB : 0 ≤ B ∧ B ≤ 100000) : ∀ n, n ≤ N → ∀ x, x < N → (0 ≤ nsAt (xrT u h n).2 x ∧ nsAt (xrT u h n).2 x ≤ B + 400) ∧ (n ≤ x → nsAt (xrT u h n).2 x = nsAt h x) := by
  intro n
  induction n with
  | zero => intro _ x hx; have := hh.2 x hx; exact ⟨⟨this.1, by show nsAt h x ≤ _; omega⟩, fun _ => rfl⟩
  | succ n ih =>
    intro hn x hx
    have ih := ih (by omega)
    have hl : (xrT u h n).2.length = N := (xrT_len u h n).trans hh.1
    rw [xrT_succ]
    have hu0 := hu n (by omega)
    change 0 ≤ u.getD n 0 ∧ u.getD n 0 ≤ 100 at hu0
    by_cases c : 1 < u.getD n 0
    · rw [if_pos c]
      have e : (xrT u h n).2.getD n 0 = nsAt h n := (ih n (by omega)).2 (Nat.le_refl _)
      have h0 := hh.2 n (by omega)
      rw [e, wrap_ok (z := u.getD n 0 - 1) (by omega), wrap_ok (z := 4 * (u.getD n 0 - 1)) (by omega), wrap_ok (by omega)]
      simp only
      rw [nsAt_set _ _ (by omega)]
      by_cases q : x = n
      · rw [if_pos q]
        exact ⟨⟨by omega, by omega⟩, fun _ => by omega⟩
      · rw [if_neg q]
        obtain ⟨j1, j2⟩ := ih x hx
        exact ⟨j1, fun _ => j2 (by omega)⟩
    · rw [if_neg c]
      obtain ⟨j1, j2⟩ := ih x hx
      exact ⟨j1, fun _ => j2 (by omega)⟩
theorem xb_runI (u h : List Int) (i : Int) (rs : List Rt) (hl : h.length = u.length) (hb : u.length ≤ 1048576) : loop (xbI u i rs) (false, (0, h)) = some (if (xrT u h u.length).1 then .inl (wrap .i64 (i + 1), ((xrT u h u.length).2, rs)) else .inr (rs, true)) := by
  refine loop_upto u.length (fun k => ((xrT u h k).1, ((k : Int), (xrT u h k).2))) (fun k hk => ?_) ?_
  · have hln := xrT_len u h k
    have hk2 : k < (xrT u h k).2.length := by omega
    unfold xbI
    try dsimp only
    rw [dt (by omega), cond_true, gin_nat hk, gget_some (xs := u) (by omega) (by omega)]
    simp only [Option.bind_some, Int.toNat_natCast]
    rw [xrT_succ]
    by_cases c : 1 < u.getD k 0
    · rw [dt c, cond_true, if_pos c, gin_nat hk2, gget_some (xs := (xrT u h k).2) (by omega) (by omega)]
      simp only [Option.bind_some, Int.toNat_natCast]
      rw [gset_nat, wrap_ok (z := (k : Int) + 1) (by omega)]; rfl
    · rw [df c, cond_false, if_neg c, wrap_ok (z := (k : Int) + 1) (by omega)]; rfl
  · unfold xbI
    try dsimp only
    rw [df (by omega), cond_false]
    cases (xrT u h u.length).1 <;> rfl
theorem xb_runS (u h : List Int) (i : Int) (rs : List Rt) (hl : h.length = u.length) (hb : u.length ≤ 1048576) : loop (xbS u i rs) (false, (0, h)) = some (if (xrT u h u.length).1 then .inl (wrap .i64 (i + 1), (rs, (xrT u h u.length).2)) else .inr (rs, true)) := by
  refine loop_upto u.length (fun k => ((xrT u h k).1, ((k : Int), (xrT u h k).2))) (fun k hk => ?_) ?_
  · have hln := xrT_len u h k
    have hk2 : k < (xrT u h k).2.length := by omega
    unfold xbS
    try dsimp only
    rw [dt (by omega), cond_true, gin_nat hk, gget_some (xs := u) (by omega) (by omega)]
    simp only [Option.bind_some, Int.toNat_natCast]
    rw [xrT_succ]
    by_cases c : 1 < u.getD k 0
    · rw [dt c, cond_true, if_pos c, gin_nat hk2, gget_some (xs := (xrT u h k).2) (by omega) (by omega)]
      simp only [Option.bind_some, Int.toNat_natCast]
      rw [gset_nat, wrap_ok (z := (k : Int) + 1) (by omega)]; rfl
    · rw [df c, cond_false, if_neg c, wrap_ok (z := (k : Int) + 1) (by omega)]; rfl
  · unfold xbS
    try dsimp only
    rw [df (by omega), cond_false]
    cases (xrT u h u.length).1 <;> rfl

noncomputable def obI (n : Int) (srcs : List Int) (snks : List (List Int)) (GR : List (List Int) × List (List Int)) : (Int × (List Int × List Rt)) → Option ((Int × (List Int × List Rt)) ⊕ (List Rt × Bool)) := fun v14 =>
  bif decide (v14.1 ≤ 12) then loop (rkI n srcs snks v14.2.1 v14.1 GR (fun rs => (impl_usage ((v14.2.1.length : Int), rs)).bind fun u => loop (xbI u v14.1 rs) (false, (0, v14.2.1)))) (0, v14.2.2)
  else Option.map Sum.inr (some (([] : List Rt), false))
noncomputable def obS (d : Dev) (ps : List Int) (cs : List Conn) (G : List (List Int)) : (Int × (List Rt × List Int)) → Option ((Int × (List Rt × List Int)) ⊕ (List Rt × Bool)) := fun v14 =>
  bif decide (v14.1 ≤ 12) then loop (rkS d ps cs v14.2.2 v14.1 G (fun rs => (spec_l34Load ((G.length : Int), (rs, (-1)))).bind fun u => loop (xbS u v14.1 rs) (false, (0, v14.2.2)))) (0, v14.2.1)
  else Option.map Sum.inr (some (([] : List Rt), false))
theorem ro_run {d : Dev} {ps : List Int} {cs : List Conn} (hd : DOk d) (hp : PsR ps) (hpl : ps.length ≤ 1048576) (hcs : cs.length ≤ 100) (hcl : ∀ c ∈ cs, c.2.2.length ≤ 1048576) {R : List (List Int)} (hR : RevOk (nodesN d).toNat (dG d) R)
    (hsrc : ∀ c ∈ cs, 0 ≤ srcP d ps c.2.1) : ∀ (m i : Nat) (hist : List Int) (rs : List Rt), i + m = 13 → 1 ≤ i → HsOk (nodesN d).toNat (400 * (i : Int)) hist → RtInv cs.length rs →
      ∃ o, loop (obI (cs.length : Int) (srcL d ps cs) (snkL d ps cs) (dG d, R)) ((i : Int), (hist, rs)) = some o ∧ loop (obS d ps cs (dG d)) ((i : Int), (rs, hist)) = some o ∧ o.1.length ≤ 100 ∧ ∀ r ∈ o.1, r.1.length ≤ 828 ∧ r.2.length ≤ 828
  | 0, i, hist, rs, hm, h1, hh, hrs => by
    refine ⟨([], false), loop_end ?_, loop_end ?_, by simp, by simp⟩
    · unfold obI
      try dsimp only
      rw [df (by omega), cond_false]
    · unfold obS
      try dsimp only
      rw [df (by omega), cond_false]
  | m + 1, i, hist, rs, hm, h1, hh, hrs => by
    have hn := nodesN_le hd
    have hG := dG_ok hd
    have hGl : ((dG d).length : Int) = ((nodesN d).toNat : Int) := by rw [hG.1]
    have hh1 : HsOk (nodesN d).toNat 1000000 hist := ⟨hh.1, fun x hx => by have := hh.2 x hx; omega⟩
    have key := rk_run hd hp hpl hcs hcl hR hsrc hh1 (i := (i : Int)) (by omega) (fun rs => (impl_usage ((hist.length : Int), rs)).bind fun u => loop (xbI u (i : Int) rs) (false, (0, hist))) (fun rs => (spec_l34Load (((dG d).length : Int), (rs, (-1)))).bind fun u => loop (xbS u (i : Int) rs) (false, (0, hist))) cs.length 0 rs (by omega) hrs
    have fI : ∀ X, loop (rkI (cs.length : Int) (srcL d ps cs) (snkL d ps cs) hist (i : Int) (dG d, R) (fun rs => (impl_usage ((hist.length : Int), rs)).bind fun u => loop (xbI u (i : Int) rs) (false, (0, hist)))) (((0 : Nat) : Int), rs) = X → obI (cs.length : Int) (srcL d ps cs) (snkL d ps cs) (dG d, R) ((i : Int), (hist, rs)) = X := fun X h => by
      unfold obI
      try dsimp only
      rw [dt (by omega), cond_true]; exact h
    have fS : ∀ X, loop (rkS d ps cs hist (i : Int) (dG d) (fun rs => (spec_l34Load (((dG d).length : Int), (rs, (-1)))).bind fun u => loop (xbS u (i : Int) rs) (false, (0, hist)))) (((0 : Nat) : Int), rs) = X → obS d ps cs (dG d) ((i : Int), (rs, hist)) = X := fun X h => by
      unfold obS
      try dsimp only
      rw [dt (by omega), cond_true]; exact h
    rcases key with ⟨k1, k2⟩ | ⟨rs', hrs', k1, k2⟩
    · exact ⟨([], false), loop_inr' (fI _ k1), loop_inr' (fS _ k2), by simp, by simp⟩
    · have hok := hrs'.ok (by omega)
      have hld := ldT_bd (nodesN d).toNat rs' (-1) rs'.length (by rw [hrs'.1]; omega)
      have hll := ldT_len (nodesN d).toNat rs' (-1) rs'.length
      have hrl : rs'.length ≤ 100 := by rw [hrs'.1]; exact hcs
      have eI := usage_impl (nodesN d).toNat rs' (by omega) hok
      have eS := load_spec (nodesN d).toNat rs' (-1) (by omega) hok
      generalize ldT (nodesN d).toNat rs' (-1) rs'.length = u at *
      have hhl : hist.length = u.length := by rw [hh.1, hll]
      have k1' := fI _ k1
      have k2' := fS _ k2
      try dsimp only at k1' k2'
      rw [hh.1, eI] at k1'
      rw [hGl, eS] at k2'
      simp only [Option.bind_some] at k1' k2'
      rw [xb_runI u hist _ _ hhl (by omega)] at k1'
      rw [xb_runS u hist _ _ hhl (by omega)] at k2'
      cases hx : (xrT u hist u.length).1 with
      | false =>
        rw [hx] at k1' k2'
        exact ⟨(rs', true), loop_inr' k1', loop_inr' k2', hrl, fun r hr => hrs'.2 r hr⟩
      | true =>
        rw [hx] at k1' k2'
        simp only [if_true] at k1' k2'
        rw [wrap_ok (z := (i : Int) + 1) (by omega)] at k1' k2'
        have hx2 := xr_ok (N := (nodesN d).toNat) (u := u) (h := hist) (B := 400 * (i : Int)) (fun x hx => by have := hld x hx; omega) hh (by omega) u.length (by omega)
        have hh2 : HsOk (nodesN d).toNat (400 * ((i + 1 : Nat) : Int)) (xrT u hist u.length).2 := ⟨by rw [xrT_len]; exact hh.1, fun x hx => by have := (hx2 x hx).1; omega⟩
        obtain ⟨o, o1, o2, o3⟩ := ro_run hd hp hpl hcs hcl hR hsrc m (i + 1) _ rs' (by omega) (by omega) hh2 hrs'
        exact ⟨o, (loop_inl' k1').trans o1, (loop_inl' k2').trans o2, o3⟩
end Go.Pf

