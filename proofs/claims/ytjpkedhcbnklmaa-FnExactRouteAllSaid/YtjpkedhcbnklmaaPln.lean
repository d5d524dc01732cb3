/-
  Own work. Plain laws of the small functions of the laws' file (lists of ints compared, marked, held).
-/
import Derived.Test.YtjpkedhcbnklmaaPl
import Derived.Test.YtjpkedhcbnklmaaD
namespace Go.Pf
open Go Go.Pu
theorem eqIntS_ok (xs ys : List Int) (h : xs.length ≤ 4611686018427387904) : laws_eqIntS (xs, ys) = some (decide (xs = ys)) := by
  unfold laws_eqIntS
  simp only
  by_cases hl : xs.length = ys.length
  · have h0 : decide (((xs.length : Nat) : Int) ≠ ((ys.length : Nat) : Int)) = false := by simp; omega
    rw [h0]
    simp only [cond_false]
    obtain ⟨o, h1, h2⟩ := loop_spec (f := fun (v4 : Int) =>
        let v5 : Int := ((xs).length : Int)
        let v6 : Bool := decide (v4 < v5)
        bif v6 then (
          (gget 0 xs v4).bind fun v7 =>
          (gget 0 ys v4).bind fun v8 =>
          let v9 : Bool := decide (v7 ≠ v8)
          bif v9 then (
            Option.map Sum.inr (
              some false)) else
          let v10 : Int := wrap .i64 (v4 + 1)
          some (.inl v10)) else
        Option.map Sum.inr (
          some true)) (fun i => 0 ≤ i ∧ i ≤ xs.length ∧ ∀ j : Nat, (j : Int) < i → xs[j]? = ys[j]?) (fun o => o = decide (xs = ys)) (fun i => (xs.length - i).toNat) (fun i ⟨i0, i1, i2⟩ => by
      by_cases hi : i < (xs.length : Int)
      · have e1 : decide (i < (xs.length : Int)) = true := by simpa using hi
        simp only [e1, cond_true]
        rw [gget_some i0 hi, gget_some i0 (by omega)]
        simp only [Option.bind_some]
        have hx : xs[i.toNat]? = some (xs.getD i.toNat 0) := by rw [List.getD, List.getElem?_eq_getElem (by omega)]; rfl
        have hy : ys[i.toNat]? = some (ys.getD i.toNat 0) := by rw [List.getD, List.getElem?_eq_getElem (by omega)]; rfl
        by_cases he : xs.getD i.toNat 0 = ys.getD i.toNat 0
        · left
          refine ⟨i + 1, ?_, ⟨by omega, by omega, fun j hj => ?_⟩, by omega⟩
          · simp only [he, ne_eq, not_true_eq_false, decide_false, cond_false]
            rw [wrap_id (by omega) (by omega)]
          · by_cases hji : (j : Int) < i
            · exact i2 j hji
            · have : j = i.toNat := by omega
              subst this
              rw [hx, hy, he]
        · right
          have e2 : decide (xs.getD i.toNat 0 ≠ ys.getD i.toNat 0) = true := decide_eq_true he
          refine ⟨false, by simp only [e2, cond_true]; rfl, ?_⟩
          symm
          simp only [decide_eq_false_iff_not]
          intro e
          subst e
          exact he rfl
      · right
        have e1 : decide (i < (xs.length : Int)) = false := by simpa using hi
        refine ⟨true, by simp [e1], ?_⟩
        symm
        simp only [decide_eq_true_eq]
        apply List.ext_getElem? 
        intro j
        by_cases hj : j < xs.length
        · exact i2 j (by omega)
        · rw [List.getElem?_eq_none (by omega), List.getElem?_eq_none (by omega)]) 0 ⟨by omega, by omega, fun j hj => by omega⟩
    rw [h2] at h1
    exact h1
  · have h0 : decide (((xs.length : Nat) : Int) ≠ ((ys.length : Nat) : Int)) = true := by simp; omega
    rw [h0]
    simp only [cond_true]
    congr 1
    symm
    simp only [decide_eq_false_iff_not]
    intro e
    subst e
    exact hl rfl
def marks (k : Int) (n : Nat) : List Int := (List.range n).map fun (j : Nat) => k + (j : Int)
theorem marks_length (k : Int) (n : Nat) : (marks k n).length = n := by simp [marks]
theorem marks_get (k : Int) (n j : Nat) (h : j < n) : (marks k n)[j]? = some (k + (j : Int)) := by simp [marks, h]
theorem toIntS_ok (xs : List Int) (h : xs.length ≤ 1048576) : laws_toIntS xs = some xs := by
  unfold laws_toIntS
  have hm : gmake 8 (0 : Int) ((xs.length : Nat) : Int) = some (List.replicate xs.length 0) := by
    unfold gmake gfit
    rw [if_pos (by constructor; omega; simp; omega)]
    simp
  simp only [hm, Option.bind_some]
  obtain ⟨o, h1, h2⟩ := loop_spec (f := fun (v3 : (Int × List Int)) =>
    let v4 : Int := ((xs).length : Int)
    let v5 : Bool := decide (v3.1 < v4)
    bif v5 then (
      (gget 0 xs v3.1).bind fun v6 =>
      (gin (v3.2).length v3.1).bind fun _ =>
      (gget 0 v3.2 v3.1).bind fun _ =>
      let v9 : Int := v6
      let v10 : List Int := gset v3.2 v3.1 v9
      let v11 : Int := wrap .i64 (v3.1 + 1)
      some (.inl (v11, v10))) else
    Option.map Sum.inr (
      some v3.2)) (fun s => 0 ≤ s.1 ∧ s.1 ≤ xs.length ∧ s.2.length = xs.length ∧ ∀ j : Nat, (j : Int) < s.1 → s.2[j]? = xs[j]?) (fun o => o = xs) (fun s => (xs.length - s.1).toNat) (fun s hs => by
    obtain ⟨i, acc⟩ := s
    obtain ⟨i0, i1, i2, i3⟩ := hs
    simp only at i0 i1 i2 i3
    by_cases hi : i < (xs.length : Int)
    · left
      have e1 : decide (i < (xs.length : Int)) = true := by simpa using hi
      simp only [e1, cond_true]
      rw [gget_some i0 hi, gin_some i0 (by omega), gget_some i0 (by omega), wrap_id (by omega) (by omega)]
      refine ⟨_, rfl, ⟨by simp only; omega, by simp only; omega, by simp only [gset, List.length_set]; exact i2, fun j hj => ?_⟩, by simp only; omega⟩
      simp only at hj ⊢
      unfold gset
      by_cases hji : (j : Int) < i
      · rw [List.getElem?_set_ne (by omega)]; exact i3 j hji
      · have : j = i.toNat := by omega
        subst this
        rw [List.getElem?_set_self (by omega), List.getD, List.getElem?_eq_getElem (by omega)]; rfl
    · right
      have e1 : decide (i < (xs.length : Int)) = false := by simpa using hi
      refine ⟨acc, by simp [e1], ?_⟩
      apply List.ext_getElem?
      intro j
      by_cases hj : j < xs.length
      · exact i3 j (by omega)
      · rw [List.getElem?_eq_none (by omega), List.getElem?_eq_none (by omega)]) (0, List.replicate xs.length 0) ⟨by simp, by simp, by simp, fun j hj => by simp at hj; omega⟩
  rw [h2] at h1
  exact h1
theorem markIntS_ok (xs : List Int) (k : Int) (hk : 0 ≤ k) (hk2 : k ≤ 1099511627776) (h : xs.length ≤ 1048576) : laws_markIntS (xs, k) = some (k + xs.length, marks k xs.length) := by
  unfold laws_markIntS
  simp only
  obtain ⟨o, h1, h2⟩ := loop_spec (f := fun (v1 : (Int × (Int × List Int))) =>
    let v2 : Int := ((v1.2.2).length : Int)
    let v3 : Bool := decide (v1.2.1 < v2)
    bif v3 then (
      (gin (v1.2.2).length v1.2.1).bind fun _ =>
      (gget 0 v1.2.2 v1.2.1).bind fun _ =>
      let v6 : Int := v1.1
      let v7 : List Int := gset v1.2.2 v1.2.1 v6
      let v8 : Int := wrap .i64 (v1.1 + 1)
      let v9 : Int := wrap .i64 (v1.2.1 + 1)
      some (.inl (v8, (v9, v7)))) else
    Option.map Sum.inr (
      some (v1.1, v1.2.2))) (fun s => 0 ≤ s.2.1 ∧ s.2.1 ≤ xs.length ∧ s.1 = k + s.2.1 ∧ s.2.2.length = xs.length ∧ ∀ j : Nat, (j : Int) < s.2.1 → s.2.2[j]? = some (k + (j : Int))) (fun o => o = (k + (xs.length : Int), marks k xs.length)) (fun s => (xs.length - s.2.1).toNat) (fun s hs => by
    obtain ⟨m, i, acc⟩ := s
    obtain ⟨i0, i1, im, i2, i3⟩ := hs
    simp only at i0 i1 im i2 i3
    subst im
    by_cases hi : i < (xs.length : Int)
    · left
      have e1 : decide (i < (acc.length : Int)) = true := by simp; omega
      simp only [e1, cond_true]
      rw [gin_some i0 (by omega), gget_some i0 (by omega), wrap_id (by omega) (by omega), wrap_id (by omega) (by omega)]
      refine ⟨_, rfl, ⟨by simp only; omega, by simp only; omega, by simp only; omega, by simp only [gset, List.length_set]; exact i2, fun j hj => ?_⟩, by simp only; omega⟩
      simp only at hj ⊢
      unfold gset
      by_cases hji : (j : Int) < i
      · rw [List.getElem?_set_ne (by omega)]; exact i3 j hji
      · have : j = i.toNat := by omega
        subst this
        rw [List.getElem?_set_self (by omega)]
        congr 1; omega
    · right
      have e1 : decide (i < (acc.length : Int)) = false := by simp; omega
      refine ⟨(k + i, acc), by simp [e1], ?_⟩
      have : i = (xs.length : Int) := by omega
      subst this
      congr 1
      apply List.ext_getElem?
      intro j
      by_cases hj : j < xs.length
      · rw [i3 j (by omega), marks_get _ _ _ hj]
      · rw [List.getElem?_eq_none (by omega), List.getElem?_eq_none (by rw [marks_length]; omega)]) (k, 0, xs) ⟨by simp, by simp, by simp, by simp, fun j hj => by simp at hj; omega⟩
  rw [h2] at h1
  exact h1
theorem heldIntS_ok (k : Int) (n : Nat) (hk : 0 ≤ k) (hk2 : k ≤ 1099511627776) (h : n ≤ 1048576) : laws_heldIntS (marks k n, k) = some (k + n) := by
  unfold laws_heldIntS
  simp only
  obtain ⟨o, h1, h2⟩ := loop_spec (f := fun (v1 : (Int × Int)) =>
    let v2 : Int := ((marks k n).length : Int)
    let v3 : Bool := decide (v1.2 < v2)
    bif v3 then (
      (gget 0 (marks k n) v1.2).bind fun v4 =>
      let v5 : Bool := decide (v4 ≠ v1.1)
      bif v5 then (
        Option.map Sum.inr (
          some (-1))) else
      let v6 : Int := wrap .i64 (v1.1 + 1)
      let v7 : Int := wrap .i64 (v1.2 + 1)
      some (.inl (v6, v7))) else
    Option.map Sum.inr (
      some v1.1)) (fun s => 0 ≤ s.2 ∧ s.2 ≤ n ∧ s.1 = k + s.2) (fun o => o = k + (n : Int)) (fun s => (n - s.2).toNat) (fun s hs => by
    obtain ⟨m, i⟩ := s
    obtain ⟨i0, i1, im⟩ := hs
    simp only at i0 i1 im
    subst im
    by_cases hi : i < (n : Int)
    · left
      have e1 : decide (i < ((marks k n).length : Int)) = true := by rw [marks_length]; simpa using hi
      simp only [e1, cond_true]
      rw [gget_some i0 (by rw [marks_length]; exact hi)]
      have e2 : (marks k n).getD i.toNat 0 = k + i := by
        rw [List.getD, marks_get _ _ _ (by omega)]; simp only [Option.getD_some]; omega
      simp only [Option.bind_some, e2, ne_eq, not_true_eq_false, decide_false, cond_false]
      rw [wrap_id (by omega) (by omega), wrap_id (by omega) (by omega)]
      exact ⟨_, rfl, ⟨by simp only; omega, by simp only; omega, by simp only; omega⟩, by simp only; omega⟩
    · right
      have e1 : decide (i < ((marks k n).length : Int)) = false := by rw [marks_length]; simpa using hi
      refine ⟨k + i, by simp [e1], ?_⟩
      omega) (k, 0) ⟨by simp, by simp, by simp⟩
  rw [h2] at h1
  exact h1
end Go.Pf

