/-
  Own work. Paths by predecessors: the program's and the reference's, plainly.
-/
import Derived.Test.YtlfmlhoajobafaaPln
namespace Go.Pf
open Go Go.Pu
noncomputable def revF (p : List Int) (v : Int × List Int) : Option ((Int × List Int) ⊕ List Int) :=
  let v14 : Bool := decide (0 ≤ v.1)
  bif v14 then (
    (gin (p).length v.1).bind fun _ =>
    (gget 0 p v.1).bind fun v16 =>
    let v17 : List Int := [v16]
    (gapp 8 v.2 v17).bind fun v18 =>
    let v19 : Int := wrap .i64 (v.1 - 1)
    some (.inl (v19, v18))) else
  Option.map Sum.inr (
    some v.2)
theorem rev_ok (p : List Int) : ∀ (n : Nat) (acc : List Int), n ≤ p.length → p.length ≤ 2097152 → acc.length + n ≤ 4194304 → loop (revF p) ((n : Int) - 1, acc) = some (acc ++ (p.take n).reverse)
  | 0, acc, _, _, _ => by
    rw [loop_eq]
    simp [revF]
  | n + 1, acc, hn, hp, ha => by
    rw [loop_eq]
    have e1 : decide ((0 : Int) ≤ ((n + 1 : Nat) : Int) - 1) = true := decide_eq_true (by omega)
    have hi : ((n + 1 : Nat) : Int) - 1 = (n : Int) := by omega
    simp only [revF, e1, cond_true]
    rw [hi, gin_some (by omega) (by omega), gget_some (by omega) (by omega)]
    simp only [Option.bind_some]
    rw [gapp_some (by simp; omega) (by simp; omega)]
    simp only [Option.bind_some]
    rw [wrap_id (by omega) (by omega)]
    rw [rev_ok p n _ (by omega) hp (by simp; omega)]
    have hlt : n < p.length := by omega
    have : p.take (n + 1) = p.take n ++ [p[n]] := by rw [List.take_append_getElem hlt]
    rw [this, List.reverse_append]
    simp [List.getD, hlt]
noncomputable def specF (nodes pred : List Int) (v9 : Int × List Int) : Option ((Int × List Int) ⊕ List Int) :=
  let v10 : Bool := decide (0 < v9.1)
  bif v10 then (
    (gget 0 pred v9.1).bind fun v11 =>
    let v12 : Bool := decide (v11 < 0)
    bif v12 then (
      Option.map Sum.inr (
        some ([] : List Int))) else
    (gget 0 pred v9.1).bind fun v13 =>
    let v14 : Bool := decide (v9.1 ≤ v13)
    bif v14 then (
      Option.map Sum.inr (
        some ([] : List Int))) else
    (gget 0 pred v9.1).bind fun v15 =>
    (gget 0 nodes v15).bind fun v16 =>
    let v17 : List Int := [v16]
    (gapp 8 v9.2 v17).bind fun v18 =>
    some (.inl (v15, v18))) else
  Option.map Sum.inr (
    let v11 : Int := ((v9.2).length : Int)
    let v12 : Int := wrap .i64 (v11 - 1)
    Pu.loop (revF v9.2) (v12, ([] : List Int)))
noncomputable def implF (nodes pred : List Int) (v8 : Int × List Int) : Option ((Int × List Int) ⊕ List Int) :=
  let v9 : Bool := decide (0 < v8.1)
  bif v9 then (
    (gget 0 nodes v8.1).bind fun v10 =>
    let v11 : List Int := [v10]
    (gapp 8 v8.2 v11).bind fun v12 =>
    (gget 0 pred v8.1).bind fun v13 =>
    let v14 : Int := wrap .i64 (v8.1 - 1)
    (impl_inRange (v13, (0, v14))).bind fun v15 =>
    let v16 : Bool := !v15
    bif v16 then (
      Option.map Sum.inr (
        some ([] : List Int))) else
    (gget 0 pred v8.1).bind fun v17 =>
    some (.inl (v17, v12))) else
  Option.map Sum.inr (
    (gget 0 nodes 0).bind fun v10 =>
    let v11 : List Int := [v10]
    let v12 : Int := ((v8.2).length : Int)
    let v13 : Int := wrap .i64 (v12 - 1)
    Pu.loop (revF v8.2) (v13, v11))
theorem inRange_ok (a b c : Int) : impl_inRange (a, (b, c)) = some (decide (b ≤ a ∧ a ≤ c)) := by
  unfold impl_inRange
  simp only
  by_cases h1 : b ≤ a
  · simp [h1]
  · simp [h1]
/-- Both walk back alike. -/
theorem walk_ok (nodes pred : List Int) (hl : nodes.length = pred.length) (hb : nodes.length ≤ 1048576) : ∀ (n : Nat) (pi : List Int), n < nodes.length → pi.length + n < 1048576 →
    ∃ o : List Int, o.length ≤ 1048576 ∧ loop (specF nodes pred) ((n : Int), pi ++ [nodes.getD n 0]) = some o ∧ loop (implF nodes pred) ((n : Int), pi) = some o := by
  intro n
  induction n using Nat.strongRecOn with
  | ind n ih =>
    intro pi hn hp
    rw [loop_eq, loop_eq]
    by_cases h0 : n = 0
    · subst h0
      have e1 : decide ((0 : Int) < ((0 : Nat) : Int)) = false := by simp
      simp only [specF, implF, e1, cond_false]
      rw [gget_some (xs := nodes) (by omega) (by omega)]
      simp only [Option.bind_some]
      have r1 := rev_ok (pi ++ [nodes.getD 0 0]) (pi.length + 1) [] (by simp) (by simp; omega) (by simp; omega)
      have r2 := rev_ok pi pi.length [nodes.getD 0 0] (by omega) (by omega) (by simp; omega)
      have w1 : wrap .i64 (((pi ++ [nodes.getD 0 0]).length : Int) - 1) = ((pi.length + 1 : Nat) : Int) - 1 := by
        have : ((pi ++ [nodes.getD 0 0]).length : Int) = (pi.length : Int) + 1 := by simp
        rw [this, wrap_id (by omega) (by omega)]; omega
      have w2 : wrap .i64 ((pi.length : Int) - 1) = (pi.length : Int) - 1 := wrap_id (by omega) (by omega)
      rw [w1, w2]
      have z : ((0 : Int)).toNat = 0 := rfl
      rw [z, r1, r2]
      refine ⟨[nodes.getD 0 0] ++ pi.reverse, by { simp only [List.length_append, List.length_reverse, List.length_cons, List.length_nil]; omega }, ?_, ?_⟩
      · simp [List.take_of_length_le]
      · simp [List.take_of_length_le]
    · have e1 : decide ((0 : Int) < (n : Int)) = true := decide_eq_true (by omega)
      have hpn : gget 0 pred (n : Int) = some (pred.getD n 0) := gget_some (by omega) (by omega)
      have hnn : gget 0 nodes (n : Int) = some (nodes.getD n 0) := gget_some (by omega) (by omega)
      have hw : wrap .i64 ((n : Int) - 1) = (n : Int) - 1 := wrap_id (by omega) (by omega)
      simp only [specF, implF, e1, cond_true, hpn, hnn, Option.bind_some, inRange_ok, hw]
      rw [gapp_some (b := 8) (xs := pi) (by simp; omega) (by simp; omega)]
      simp only [Option.bind_some]
      generalize pred.getD n 0 = q
      by_cases hq : 0 ≤ q ∧ q ≤ (n : Int) - 1
      · have d1 : decide (q < 0) = false := decide_eq_false (by omega)
        have d2 : decide ((n : Int) ≤ q) = false := decide_eq_false (by omega)
        have d3 : decide (0 ≤ q ∧ q ≤ (n : Int) - 1) = true := decide_eq_true hq
        simp only [d1, d2, d3, cond_false, Bool.not_true]
        rw [gget_some (xs := nodes) hq.1 (by omega)]
        simp only [Option.bind_some]
        rw [gapp_some (by simp; omega) (by simp; omega)]
        simp only [Option.bind_some]
        obtain ⟨m, rfl⟩ : ∃ m : Nat, q = (m : Int) := ⟨q.toNat, by omega⟩
        have := ih m (by omega) (pi ++ [nodes.getD n 0]) (by omega) (by simp; omega)
        exact this
      · have d3 : decide (0 ≤ q ∧ q ≤ (n : Int) - 1) = false := decide_eq_false hq
        simp only [d3, Bool.not_false, cond_true]
        refine ⟨[], by simp, ?_, rfl⟩
        by_cases h1 : q < 0
        · simp [h1]
        · have h2 : (n : Int) ≤ q := by omega
          simp [h1, h2]
theorem path_ok (nodes pred : List Int) (k : Int) (hb : nodes.length ≤ 1048576) : ∃ o : List Int, o.length ≤ 1048576 ∧ spec_PathTo ((nodes, pred), k) = some o ∧ impl_PathTo ((nodes, pred), k) = some o := by
  by_cases hl : nodes.length = pred.length
  · have e1 : decide (((nodes.length : Nat) : Int) ≠ (pred.length : Int)) = false := decide_eq_false (by omega)
    have hw : wrap .i64 ((nodes.length : Int) - 1) = (nodes.length : Int) - 1 := wrap_id (by omega) (by omega)
    by_cases hk : 0 ≤ k ∧ k ≤ (nodes.length : Int) - 1
    · obtain ⟨n, rfl⟩ : ∃ n : Nat, k = (n : Int) := ⟨k.toNat, by omega⟩
      obtain ⟨o, h1, h2, h3⟩ := walk_ok nodes pred hl hb n [] (by omega) (by simp; omega)
      refine ⟨o, h1, ?_, ?_⟩
      · have d1 : decide ((n : Int) < 0) = false := decide_eq_false (by omega)
        have d2 : decide (((nodes.length : Nat) : Int) ≤ (n : Int)) = false := decide_eq_false (by omega)
        unfold spec_PathTo
        simp only [e1, d1, d2, cond_false]
        rw [gget_some (xs := nodes) (by omega) (by omega)]
        exact h2
      · have d3 : decide (0 ≤ (n : Int) ∧ (n : Int) ≤ (nodes.length : Int) - 1) = true := decide_eq_true hk
        unfold impl_PathTo
        simp only [e1, cond_false]
        rw [hw, inRange_ok]
        simp only [Option.bind_some, d3, Bool.not_true, cond_false]
        exact h3
    · refine ⟨[], by simp, ?_, ?_⟩
      · unfold spec_PathTo
        simp only [e1, cond_false]
        by_cases h1 : k < 0
        · simp [h1]
        · have h2 : ((nodes.length : Nat) : Int) ≤ k := by omega
          simp [h1, h2]
      · have d3 : decide (0 ≤ k ∧ k ≤ (nodes.length : Int) - 1) = false := decide_eq_false hk
        unfold impl_PathTo
        simp only [e1, cond_false]
        rw [hw, inRange_ok]
        simp only [Option.bind_some, d3, Bool.not_false, cond_true]
  · have e1 : decide (((nodes.length : Nat) : Int) ≠ (pred.length : Int)) = true := decide_eq_true (by omega)
    refine ⟨[], by simp, ?_, ?_⟩
    · unfold spec_PathTo; simp only [e1, cond_true]
    · unfold impl_PathTo; simp only [e1, cond_true]
end Go.Pf
