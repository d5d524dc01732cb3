/-
  Own work. Routes' use of nodes, plainly.
-/
import Derived.Test.YtjpkedhcbnklmaaDve
import Derived.Test.YtjpkedhcbnklmaaHlp
import Derived.Test.YtjpkedhcbnklmaaPla
namespace Go.Pf
open Go Go.Pu
set_option linter.unusedVariables false

abbrev Rt := List Int × List Int
def RtOk (r : Rt) : Prop := r.1.length ≤ 1048576 ∧ r.2.length ≤ 1048576
theorem szlistB {α : Type} (d0 : α) (szf : α × Int → Option Int) (P : Int → α → Prop) (mono : ∀ b c x, b ≤ c → P b x → P c x) (xs : List α) (hl : xs.length ≤ 9223372036854775807) (h : ∀ x ∈ xs, ∀ b : Int, 0 ≤ b → b ≤ 1048576 → szf (x, b) = some (-1) ∨ (P b x ∧ ∃ z, 0 ≤ z ∧ z ≤ b ∧ szf (x, b) = some z)) : ∀ b : Int, 0 ≤ b → b ≤ 1048576 →
    (let v1 : Int := ((xs).length : Int)
    let v2 : Int := wrap .i64 (b - v1)
    let v3 : Bool := decide (v2 < 0)
    bif v3 then (
      some (-1)) else
    Pu.loop (fun (v4 : (Int × Int)) =>
      let v5 : Int := ((xs).length : Int)
      let v6 : Bool := decide (v4.2 < v5)
      bif v6 then (
        (gget d0 xs v4.2).bind fun v7 =>
        (szf (v7, v4.1)).bind fun v8 =>
        let v9 : Bool := decide (v8 < 0)
        bif v9 then (
          Option.map Sum.inr (
            some (-1))) else
        let v10 : Int := wrap .i64 (v4.2 + 1)
        some (.inl (v8, v10))) else
      Option.map Sum.inr (
        some v4.1)) (v2, 0)) = some (-1) ∨ ((xs.length ≤ 1048576 ∧ ∀ x ∈ xs, P (b - xs.length) x) ∧ ∃ z, 0 ≤ z ∧ z ≤ b ∧ (let v1 : Int := ((xs).length : Int)
    let v2 : Int := wrap .i64 (b - v1)
    let v3 : Bool := decide (v2 < 0)
    bif v3 then (
      some (-1)) else
    Pu.loop (fun (v4 : (Int × Int)) =>
      let v5 : Int := ((xs).length : Int)
      let v6 : Bool := decide (v4.2 < v5)
      bif v6 then (
        (gget d0 xs v4.2).bind fun v7 =>
        (szf (v7, v4.1)).bind fun v8 =>
        let v9 : Bool := decide (v8 < 0)
        bif v9 then (
          Option.map Sum.inr (
            some (-1))) else
        let v10 : Int := wrap .i64 (v4.2 + 1)
        some (.inl (v8, v10))) else
      Option.map Sum.inr (
        some v4.1)) (v2, 0)) = some z) := by
  intro b b0 b1
  dsimp only
  rw [wrap_ok (by omega)]
  by_cases hb : b - (xs.length : Int) < 0
  · left; rw [dt hb]; rfl
  · rw [df hb, cond_false]
    obtain ⟨o, h1, h2⟩ := loop_spec (f := fun (v4 : (Int × Int)) =>
      let v5 : Int := ((xs).length : Int)
      let v6 : Bool := decide (v4.2 < v5)
      bif v6 then (
        (gget d0 xs v4.2).bind fun v7 =>
        (szf (v7, v4.1)).bind fun v8 =>
        let v9 : Bool := decide (v8 < 0)
        bif v9 then (
          Option.map Sum.inr (
            some (-1))) else
        let v10 : Int := wrap .i64 (v4.2 + 1)
        some (.inl (v8, v10))) else
      Option.map Sum.inr (
        some v4.1)) (fun s => 0 ≤ s.2 ∧ s.2 ≤ xs.length ∧ 0 ≤ s.1 ∧ s.1 ≤ b - xs.length ∧ ∀ j : Nat, (j : Int) < s.2 → ∀ q : j < xs.length, P (b - xs.length) xs[j]) (fun o => o = -1 ∨ (0 ≤ o ∧ o ≤ b ∧ ∀ x ∈ xs, P (b - xs.length) x)) (fun s => (xs.length - s.2).toNat) (fun s hs => by
        obtain ⟨c, i⟩ := s
        obtain ⟨i0, i1, c0, c1, hP⟩ := hs
        simp only at i0 i1 c0 c1 hP
        by_cases hi : i < (xs.length : Int)
        · obtain ⟨k, rfl⟩ : ∃ k : Nat, i = (k : Int) := ⟨i.toNat, by omega⟩
          have hk : k < xs.length := by omega
          dsimp only
          rw [dt hi, cond_true, gget_nat hk]
          simp only [Option.bind_some]
          rcases h _ (List.getElem_mem hk) c c0 (by omega) with e | ⟨p, z, z0, z1, e⟩
          · right; rw [e]; exact ⟨-1, rfl, Or.inl rfl⟩
          · left
            rw [e]
            simp only [Option.bind_some]
            rw [df (by omega), cond_false, wrap_ok (by omega)]
            refine ⟨_, rfl, ⟨by simp only; omega, by simp only; omega, z0, by simp only; omega, fun j hj q => ?_⟩, by simp only; omega⟩
            by_cases hjk : j = k
            · subst hjk; exact mono _ _ _ (by omega) p
            · exact hP j (by simp only at hj; omega) q
        · right
          dsimp only
          rw [df hi, cond_false]
          refine ⟨c, rfl, Or.inr ⟨c0, by omega, fun x hx => ?_⟩⟩
          obtain ⟨j, hj, rfl⟩ := List.getElem_of_mem hx
          exact hP j (by omega) hj) (b - (xs.length : Int), 0) ⟨by simp, by simp, by simp only; omega, by simp only; omega, fun j hj q => by simp at hj; omega⟩
    rcases h2 with h2 | ⟨o0, o1, h2⟩
    · left; rw [h1, h2]
    · right
      exact ⟨⟨by omega, h2⟩, o, o0, o1, h1⟩

def RtB (b : Int) (r : Rt) : Prop := (r.1.length : Int) + (r.2.length : Int) ≤ b
def RtsOk (rs : List Rt) : Prop := rs.length ≤ 1048576 ∧ ∀ r ∈ rs, RtOk r
def RtsB (rs : List Rt) : Prop := rs.length ≤ 1048576 ∧ ∀ r ∈ rs, RtB (1048576 - rs.length) r
theorem RtsB.ok {rs : List Rt} (h : RtsB rs) : RtsOk rs := ⟨h.1, fun r hr => by
  have := h.2 r hr
  unfold RtB at this
  exact ⟨by omega, by omega⟩⟩
def nsAt (ns : List Int) (j : Nat) : Int := ns.getD j 0
def inN (N : Nat) (x : Int) : Prop := 0 ≤ x ∧ x < (N : Int)
instance (N : Nat) (x : Int) : Decidable (inN N x) := by unfold inN; exact inferInstance
theorem take_at {ns : List Int} {j : Nat} (h : j < ns.length) : ns.take (j + 1) = ns.take j ++ [nsAt ns j] := by
  rw [take_succ' ns j h]
  unfold nsAt
  rw [List.getD, List.getElem?_eq_getElem h]; rfl
theorem ns_at {ns : List Int} {j : Nat} (h : j < ns.length) : ns[j] = nsAt ns j := by unfold nsAt; rw [List.getD, List.getElem?_eq_getElem h]; rfl
end Go.Pf

