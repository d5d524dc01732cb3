/-
  Own work. The law of a path's delay, plainly: it says true.
-/
import Derived.Test.YtnllpdmiijbehaaTma
namespace Go.Pf
open Go Go.Pu
def bestS (a b : Int) (m : Int) (x : Arc) : Int := if x.1 = a then (if x.2.1 = b then (if m < x.2.2 then x.2.2 else m) else m) else m
def best (as : List Arc) (a b : Int) (k : Nat) : Int := (as.take k).foldl (bestS a b) (-1)
theorem best_succ (as : List Arc) (a b : Int) (k : Nat) (h : k < as.length) : best as a b (k + 1) = bestS a b (best as a b k) as[k] := by
  unfold best; rw [take_succ' as k h, List.foldl_append]; rfl
theorem best_le (as : List Arc) (a b : Int) (h : ∀ x ∈ as, 0 ≤ x.2.2 ∧ x.2.2 ≤ 100) (k : Nat) : k ≤ as.length → -1 ≤ best as a b k ∧ best as a b k ≤ 100 := by
  induction k with
  | zero => intro _; unfold best; simp
  | succ k ih =>
    intro hk
    have ih := ih (by omega)
    have hx := h _ (List.getElem_mem (show k < as.length by omega))
    rw [best_succ as a b k (by omega)]
    unfold bestS
    split
    · split
      · split <;> omega
      · exact ih
    · exact ih
def bst (as : List Arc) (p : List Int) (j : Nat) : Int := best as (p.getD j 0) (p.getD (j + 1) 0) as.length
def psum (as : List Arc) (p : List Int) : Nat → Int
  | 0 => 0
  | j + 1 => psum as p j + bst as p j
theorem psum_le (as : List Arc) (p : List Int) (h : ∀ x ∈ as, 0 ≤ x.2.2 ∧ x.2.2 ≤ 100) (j : Nat) : -(j : Int) ≤ psum as p j ∧ psum as p j ≤ 100 * j := by
  induction j with
  | zero => simp [psum]
  | succ j ih =>
    have hb := best_le as (p.getD j 0) (p.getD (j + 1) 0) h as.length (Nat.le_refl _)
    unfold psum bst
    omega
def pdP (g : TG) (p : List Int) : Int := if timP g = true then (if (List.range (p.length - 1)).all (fun j => decide (0 ≤ bst g.2 p j)) = true then psum g.2 p (p.length - 1) else -1) else -1
theorem pd_spec (g : TG) (p : List Int) (hp : p.length ≤ 1048576) : spec_PathDelay (g, p) = some (pdP g p) := by
  unfold spec_PathDelay pdP
  dsimp only
  rw [tim_spec]
  simp only [Option.bind_some]
  by_cases h : timP g = true
  rotate_left
  · rw [if_neg h]; rw [Bool.not_eq_true] at h; rw [h]; rfl
  rw [if_pos h, h]
  simp only [Bool.not_true, cond_false]
  have hd : ∀ x ∈ g.2, 0 ≤ x.2.2 ∧ x.2.2 ≤ 100 := fun x hx => (timP_arc h hx).2.2
  have hl := (timP_len h).2
  have inner : ∀ j, j + 1 < p.length → Pu.loop (fun (v6 : (Int × Int)) =>
        let v7 : Int := ((g.2).length : Int)
        let v8 : Bool := decide (v6.2 < v7)
        bif v8 then (
          (gget (0, (0, 0)) g.2 v6.2).bind fun v9 =>
          let v10 : Int := wrap .i64 ((j : Int) + 1 - 1)
          (gget 0 p v10).bind fun v11 =>
          let v12 : Bool := decide (v9.1 = v11)
          bif v12 then (
            (gget (0, (0, 0)) g.2 v6.2).bind fun v13 =>
            (gget 0 p ((j : Int) + 1)).bind fun v14 =>
            let v15 : Bool := decide (v13.2.1 = v14)
            bif v15 then (
              (gget (0, (0, 0)) g.2 v6.2).bind fun v16 =>
              let v17 : Int := if v6.1 < v16.2.2 then v16.2.2 else v6.1
              let v18 : Int := wrap .i64 (v6.2 + 1)
              some (.inl (v17, v18))) else
            let v16 : Int := wrap .i64 (v6.2 + 1)
            some (.inl (v6.1, v16))) else
          let v13 : Int := wrap .i64 (v6.2 + 1)
          some (.inl (v6.1, v13))) else
        Option.map Sum.inr (
          let v9 : Bool := decide (v6.1 < 0)
          bif v9 then (
            Option.map Sum.inr (
              some (-1))) else
          let v10 : Int := wrap .i64 (psum g.2 p j + v6.1)
          let v11 : Int := wrap .i64 ((j : Int) + 1 + 1)
          some (.inl (v10, v11)))) ((-1), 0) = some (if 0 ≤ bst g.2 p j then Sum.inl (psum g.2 p (j + 1), ((j + 1 : Nat) : Int) + 1) else Sum.inr (-1)) := by
    intro j hj
    refine loop_upto g.2.length (fun k => (best g.2 (p.getD j 0) (p.getD (j + 1) 0) k, (k : Int))) (fun k hk => ?_) ?_
    · dsimp only
      rw [dt (by omega), cond_true, gget_nat hk, wrap_ok (z := (j : Int) + 1 - 1) (by omega), show (j : Int) + 1 - 1 = (j : Int) from by omega, cast_succ j, gget_nat (xs := p) (k := j) (by omega), gget_nat (xs := p) hj, wrap_ok (z := (k : Int) + 1) (by omega), best_succ _ _ _ _ hk]
      simp only [Option.bind_some]
      unfold bestS
      have e1 : p.getD j 0 = p[j] := by rw [List.getD, List.getElem?_eq_getElem (by omega)]; rfl
      have e2 : p.getD (j + 1) 0 = p[j + 1] := by rw [List.getD, List.getElem?_eq_getElem hj]; rfl
      rw [e1, e2]
      by_cases q1 : (g.2[k]).1 = p[j]
      · rw [dt q1, if_pos q1, cond_true]
        by_cases q2 : (g.2[k]).2.1 = p[j + 1]
        · rw [dt q2, if_pos q2]; rfl
        · rw [df q2, if_neg q2]; rfl
      · rw [df q1, if_neg q1]; rfl
    · dsimp only
      have hs := psum_le g.2 p hd j
      have hb := best_le g.2 (p.getD j 0) (p.getD (j + 1) 0) hd g.2.length (Nat.le_refl _)
      rw [df (by omega), cond_false]
      unfold bst
      by_cases q : 0 ≤ best g.2 (p.getD j 0) (p.getD (j + 1) 0) g.2.length
      · rw [df (by omega), if_pos q, cond_false, wrap_ok (z := psum g.2 p j + best g.2 (p.getD j 0) (p.getD (j + 1) 0) g.2.length) (by omega), wrap_ok (by omega)]; rfl
      · rw [dt (by omega), if_neg q]; rfl
  refine Eq.trans (loop_all (p.length - 1) (fun j : Nat => (psum g.2 p j, (j : Int) + 1)) (fun j => decide (0 ≤ bst g.2 p j)) (-1) (psum g.2 p (p.length - 1)) (fun j hj hok => ?_) (fun j hj hok => ?_) ?_) rfl
  · dsimp only
    rw [dt (by omega), cond_true]
    refine Eq.trans (inner j (by omega)) ?_
    rw [if_pos (of_decide_eq_true hok)]
  · dsimp only
    rw [dt (by omega), cond_true]
    refine Eq.trans (inner j (by omega)) ?_
    rw [if_neg (of_decide_eq_false hok)]
  · dsimp only
    rw [df (by omega), cond_false]; rfl
theorem pd_impl (g : TG) (p : List Int) (hp : p.length ≤ 1048576) : impl_PathDelay (g, p) = some (pdP g p) := by
  unfold impl_PathDelay pdP
  dsimp only
  rw [tim_impl]
  simp only [Option.bind_some]
  by_cases h : timP g = true
  rotate_left
  · rw [if_neg h]; rw [Bool.not_eq_true] at h; rw [h]; rfl
  rw [if_pos h, h]
  simp only [Bool.not_true, cond_false]
  have hd : ∀ x ∈ g.2, 0 ≤ x.2.2 ∧ x.2.2 ≤ 100 := fun x hx => (timP_arc h hx).2.2
  have hl := (timP_len h).2
  have inner : ∀ j, j + 1 < p.length → Pu.loop (fun (v7 : (Int × Int)) =>
        let v8 : Bool := decide (v7.2 < (g.2.length : Int))
        bif v8 then (
          (gget (0, (0, 0)) g.2 v7.2).bind fun v9 =>
          let v10 : Int := wrap .i64 ((j : Int) + 1 - 1)
          (gget 0 p v10).bind fun v11 =>
          let v12 : Bool := decide (v9.1 = v11)
          bif v12 then (
            (gget 0 p ((j : Int) + 1)).bind fun v13 =>
            let v14 : Bool := decide (v9.2.1 = v13)
            bif v14 then (
              let v15 : Int := if v7.1 < v9.2.2 then v9.2.2 else v7.1
              let v16 : Int := wrap .i64 (v7.2 + 1)
              some (.inl (v15, v16))) else
            let v15 : Int := wrap .i64 (v7.2 + 1)
            some (.inl (v7.1, v15))) else
          let v13 : Int := wrap .i64 (v7.2 + 1)
          some (.inl (v7.1, v13))) else
        Option.map Sum.inr (
          let v9 : Bool := decide (v7.1 < 0)
          bif v9 then (
            Option.map Sum.inr (
              some (-1))) else
          let v10 : Int := wrap .i64 (psum g.2 p j + v7.1)
          let v11 : Int := wrap .i64 ((j : Int) + 1 + 1)
          some (.inl (v10, v11)))) ((-1), 0) = some (if 0 ≤ bst g.2 p j then Sum.inl (psum g.2 p (j + 1), ((j + 1 : Nat) : Int) + 1) else Sum.inr (-1)) := by
    intro j hj
    refine loop_upto g.2.length (fun k => (best g.2 (p.getD j 0) (p.getD (j + 1) 0) k, (k : Int))) (fun k hk => ?_) ?_
    · dsimp only
      rw [dt (by omega), cond_true, gget_nat hk, wrap_ok (z := (j : Int) + 1 - 1) (by omega), show (j : Int) + 1 - 1 = (j : Int) from by omega, cast_succ j, gget_nat (xs := p) (k := j) (by omega), gget_nat (xs := p) hj, wrap_ok (z := (k : Int) + 1) (by omega), best_succ _ _ _ _ hk]
      simp only [Option.bind_some]
      unfold bestS
      have e1 : p.getD j 0 = p[j] := by rw [List.getD, List.getElem?_eq_getElem (by omega)]; rfl
      have e2 : p.getD (j + 1) 0 = p[j + 1] := by rw [List.getD, List.getElem?_eq_getElem hj]; rfl
      rw [e1, e2]
      by_cases q1 : (g.2[k]).1 = p[j]
      · rw [dt q1, if_pos q1, cond_true]
        by_cases q2 : (g.2[k]).2.1 = p[j + 1]
        · rw [dt q2, if_pos q2]; rfl
        · rw [df q2, if_neg q2]; rfl
      · rw [df q1, if_neg q1]; rfl
    · dsimp only
      have hs := psum_le g.2 p hd j
      have hb := best_le g.2 (p.getD j 0) (p.getD (j + 1) 0) hd g.2.length (Nat.le_refl _)
      rw [df (by omega), cond_false]
      unfold bst
      by_cases q : 0 ≤ best g.2 (p.getD j 0) (p.getD (j + 1) 0) g.2.length
      · rw [df (by omega), if_pos q, cond_false, wrap_ok (z := psum g.2 p j + best g.2 (p.getD j 0) (p.getD (j + 1) 0) g.2.length) (by omega), wrap_ok (by omega)]; rfl
      · rw [dt (by omega), if_neg q]; rfl
  refine Eq.trans (loop_all (p.length - 1) (fun j : Nat => (psum g.2 p j, (j : Int) + 1)) (fun j => decide (0 ≤ bst g.2 p j)) (-1) (psum g.2 p (p.length - 1)) (fun j hj hok => ?_) (fun j hj hok => ?_) ?_) rfl
  · dsimp only
    rw [dt (by omega), cond_true]
    refine Eq.trans (inner j (by omega)) ?_
    rw [if_pos (of_decide_eq_true hok)]
  · dsimp only
    rw [dt (by omega), cond_true]
    refine Eq.trans (inner j (by omega)) ?_
    rw [if_neg (of_decide_eq_false hok)]
  · dsimp only
    rw [df (by omega), cond_false]; rfl
theorem law_FnExactPathDelay (x : ((Int × List (Int × (Int × Int))) × List Int)) (h : InR (tP (tP tI (tS 0 (tP tI (tP tI tI)))) (tS 0 tI)) x) : laws_FnExactPathDelay x = some true := by
  obtain ⟨g, p⟩ := x
  obtain ⟨⟨_, ⟨hg, _⟩⟩, _⟩ := h
  unfold laws_FnExactPathDelay
  simp only
  by_cases h1 : 1048576 < (p.length : Int)
  · rw [dt h1]; rfl
  rw [df h1, cond_false]
  rcases szTG_ok g (Nat.le_trans hg (by decide)) 1048576 (by omega) (by omega) with e | ⟨hg, z, z0, z1, e⟩
  · rw [e]; rfl
  rw [e]
  simp only [Option.bind_some]
  rw [df (by omega), cond_false]
  simp only [Option.bind_some, toTG_ok g hg, toIntS_ok p (by omega), pd_spec g p (by omega), pd_impl g p (by omega), ne_eq, not_true_eq_false, decide_false, cond_false, eqTG_refl g hg, eqIntS_ok p p (by omega), decide_true, Bool.not_true]
end Go.Pf
