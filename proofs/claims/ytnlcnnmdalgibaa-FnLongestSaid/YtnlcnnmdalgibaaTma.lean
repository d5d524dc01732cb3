/-
  Own work. Timing graphs, points and paths, plainly.
-/
import Derived.Test.YtnlcnnmdalgibaaHlp
import Derived.Test.YtnlcnnmdalgibaaDvc
namespace Go.Pf
open Go Go.Pu

def arcP (n : Int) (a : Arc) : Bool := decide ((0 ≤ a.1 ∧ a.1 < a.2.1) ∧ a.2.1 < n ∧ (0 ≤ a.2.2 ∧ a.2.2 ≤ 100))
def timP (g : TG) : Bool := decide ((0 ≤ g.1 ∧ g.1 ≤ 500) ∧ g.2.length ≤ 2000) && g.2.all (arcP g.1)
theorem timP_len {g : TG} (h : timP g = true) : (0 ≤ g.1 ∧ g.1 ≤ 500) ∧ g.2.length ≤ 2000 := by
  unfold timP at h; rw [Bool.and_eq_true] at h; exact of_decide_eq_true h.1
theorem timP_arc {g : TG} (h : timP g = true) {a : Arc} (ha : a ∈ g.2) : (0 ≤ a.1 ∧ a.1 < a.2.1) ∧ a.2.1 < g.1 ∧ (0 ≤ a.2.2 ∧ a.2.2 ≤ 100) := by
  unfold timP at h; rw [Bool.and_eq_true, List.all_eq_true] at h; exact of_decide_eq_true (h.2 a ha)
theorem tim_impl (g : TG) : impl_TimingOk g = some (timP g) := by
  obtain ⟨n, as⟩ := g
  unfold impl_TimingOk timP
  dsimp only
  rw [inR_impl]
  simp only [Option.bind_some]
  by_cases h1 : 0 ≤ n ∧ n ≤ 500
  · rw [dt h1]
    simp only [Bool.not_true, cond_false]
    by_cases h2 : as.length ≤ 2000
    · rw [df (by omega), cond_false, dt ⟨h1, h2⟩, Bool.true_and]
      have e := loop_all as.length (fun k : Nat => (k : Int)) (fun k => if h : k < as.length then arcP n as[k] else true) false true (f := fun (v6 : Int) =>
    let v7 : Bool := decide (v6 < (as.length : Int))
    bif v7 then (
      (gget (0, (0, 0)) as v6).bind fun v8 =>
      let v9 : Int := wrap .i64 (n - 1)
      (impl_inRange (v8.2.1, (0, v9))).bind fun v10 =>
      let v11 : Bool := !v10
      bif v11 then (
        Option.map Sum.inr (
          some false)) else
      let v12 : Int := wrap .i64 (v8.2.1 - 1)
      (impl_inRange (v8.1, (0, v12))).bind fun v13 =>
      let v14 : Bool := !v13
      bif v14 then (
        Option.map Sum.inr (
          some false)) else
      (impl_inRange (v8.2.2, (0, 100))).bind fun v15 =>
      let v16 : Bool := !v15
      bif v16 then (
        Option.map Sum.inr (
          some false)) else
      let v17 : Int := wrap .i64 (v6 + 1)
      some (.inl v17)) else
    Option.map Sum.inr (
      some true)) (fun k hk hok => by
        rw [dif_pos hk] at hok
        obtain ⟨⟨q1, q2⟩, q3, q4⟩ := of_decide_eq_true hok
        dsimp only
        rw [dt (by omega), cond_true, gget_nat hk]
        simp only [Option.bind_some, inR_impl]
        rw [wrap_ok (z := n - 1) (by omega), dt (by omega)]
        simp only [Bool.not_true, cond_false]
        rw [wrap_ok (z := (as[k]).2.1 - 1) (by omega), dt (by omega), dt q4]
        simp only [Bool.not_true, cond_false]
        rw [wrap_ok (by omega)]; rfl) (fun k hk hok => by
        rw [dif_pos hk] at hok
        have q := of_decide_eq_false hok
        dsimp only
        rw [dt (by omega), cond_true, gget_nat hk]
        simp only [Option.bind_some, inR_impl]
        rw [wrap_ok (z := n - 1) (by omega)]
        by_cases q1 : 0 ≤ (as[k]).2.1 ∧ (as[k]).2.1 ≤ n - 1
        · rw [dt q1]
          simp only [Bool.not_true, cond_false]
          rw [wrap_ok (z := (as[k]).2.1 - 1) (by omega)]
          by_cases q2 : 0 ≤ (as[k]).1 ∧ (as[k]).1 ≤ (as[k]).2.1 - 1
          · rw [dt q2]
            simp only [Bool.not_true, cond_false]
            rw [df (fun q4 => q ⟨by omega, by omega, q4⟩)]; rfl
          · rw [df q2]; rfl
        · rw [df q1]; rfl) (by
        dsimp only
        rw [df (by omega), cond_false]; rfl)
      rw [all_range_list as (arcP n) _ (fun k hk => by rw [dif_pos hk])] at e
      refine Eq.trans e ?_
      cases as.all (arcP n) <;> rfl
    · rw [dt (by omega), cond_true, df (fun e => h2 e.2)]; rfl
  · rw [df h1]
    simp only [Bool.not_false, cond_true]
    rw [df (fun e => h1 e.1)]; rfl

def ptP (n : Int) (p : Int × Int) : Bool := decide ((0 ≤ p.1 ∧ p.1 < n) ∧ (0 ≤ p.2 ∧ p.2 ≤ 50))
def ptsP (g : TG) (ps : List (Int × Int)) : Bool := timP g && (decide (ps.length ≤ 100) && ps.all (ptP g.1))
theorem pts_impl (g : TG) (ps : List (Int × Int)) : impl_PointsOk (g, ps) = some (ptsP g ps) := by
  unfold impl_PointsOk ptsP
  dsimp only
  rw [tim_impl]
  simp only [Option.bind_some]
  by_cases h1 : timP g = true
  · have hg := timP_len h1
    rw [h1]
    simp only [Bool.not_true, cond_false, Bool.true_and]
    by_cases h2 : ps.length ≤ 100
    · rw [df (by omega), cond_false, dt h2, Bool.true_and]
      have e := loop_all ps.length (fun k : Nat => (k : Int)) (fun k => if h : k < ps.length then ptP g.1 ps[k] else true) false true (f := fun (v6 : Int) =>
    let v7 : Bool := decide (v6 < (ps.length : Int))
    bif v7 then (
      (gget (0, 0) ps v6).bind fun v8 =>
      let v9 : Int := wrap .i64 (g.1 - 1)
      (impl_inRange (v8.1, (0, v9))).bind fun v10 =>
      let v11 : Bool := !v10
      bif v11 then (
        Option.map Sum.inr (
          some false)) else
      (impl_inRange (v8.2, (0, 50))).bind fun v12 =>
      let v13 : Bool := !v12
      bif v13 then (
        Option.map Sum.inr (
          some false)) else
      let v14 : Int := wrap .i64 (v6 + 1)
      some (.inl v14)) else
    Option.map Sum.inr (
      some true)) (fun k hk hok => by
        rw [dif_pos hk] at hok
        obtain ⟨⟨q1, q2⟩, q4⟩ := of_decide_eq_true hok
        dsimp only
        rw [dt (by omega), cond_true, gget_nat hk]
        simp only [Option.bind_some, inR_impl]
        rw [wrap_ok (z := g.1 - 1) (by omega), dt (by omega), dt q4]
        simp only [Bool.not_true, cond_false]
        rw [wrap_ok (by omega)]; rfl) (fun k hk hok => by
        rw [dif_pos hk] at hok
        have q := of_decide_eq_false hok
        dsimp only
        rw [dt (by omega), cond_true, gget_nat hk]
        simp only [Option.bind_some, inR_impl]
        rw [wrap_ok (z := g.1 - 1) (by omega)]
        by_cases q1 : 0 ≤ (ps[k]).1 ∧ (ps[k]).1 ≤ g.1 - 1
        · rw [dt q1]
          simp only [Bool.not_true, cond_false]
          rw [df (fun q4 => q ⟨by omega, q4⟩)]; rfl
        · rw [df q1]; rfl) (by
        dsimp only
        rw [df (by omega), cond_false]; rfl)
      rw [all_range_list ps (ptP g.1) _ (fun k hk => by rw [dif_pos hk])] at e
      refine Eq.trans e ?_
      cases ps.all (ptP g.1) <;> rfl
    · rw [dt (by omega), cond_true, df h2]; rfl
  · rw [Bool.not_eq_true] at h1
    rw [h1]; rfl
end Go.Pf

