/-
  Own work. The laws' helpers for lists of connections: sizes within the budget, marks.
-/
import Derived.Test.YtjpkedhcbnklmaaUse
import Derived.Test.YtjpkedhcbnklmaaCna
namespace Go.Pf
open Go Go.Pu
set_option linter.unusedVariables false

def CnB (b : Int) (c : Conn) : Prop := (c.2.2.length : Int) ≤ b
def CnsB (cs : List Conn) : Prop := cs.length ≤ 1048576 ∧ ∀ c ∈ cs, CnB (1048576 - cs.length) c
theorem CnsB.ok {cs : List Conn} (h : CnsB cs) : CnsOk cs := ⟨h.1, fun c hc => by
  have := h.2 c hc
  unfold CnB at this
  unfold CnOk; omega⟩
theorem szCnB_ok (c : Conn) (hl : c.2.2.length ≤ 9223372036854775807) : ∀ b : Int, 0 ≤ b → b ≤ 1048576 → laws_szConn (c, b) = some (-1) ∨ (CnB b c ∧ ∃ z, 0 ≤ z ∧ z ≤ b ∧ laws_szConn (c, b) = some z) := by
  intro b b0 b1
  unfold laws_szConn laws_szPinS
  try dsimp only
  rw [wrap_ok (by omega)]
  by_cases h : b - (c.2.2.length : Int) < 0
  · left; rw [dt h]; rfl
  · right
    rw [df h]
    simp only [cond_false, Option.bind_some]
    rw [df h, cond_false]
    exact ⟨by unfold CnB; omega, b - (c.2.2.length : Int), by omega, by omega, rfl⟩
theorem szCnsB_ok (cs : List Conn) (hl : cs.length ≤ 9223372036854775807) (h : ∀ c ∈ cs, List.length c.2.2 ≤ 9223372036854775807) : laws_szConnS (cs, 1048576) = some (-1) ∨ (CnsB cs ∧ ∃ z, 0 ≤ z ∧ z ≤ 1048576 ∧ laws_szConnS (cs, 1048576) = some z) :=
  szlistB (0, ((0, 0), [])) laws_szConn CnB (fun b c x h1 h2 => by unfold CnB at *; omega) cs hl (fun r hr => szCnB_ok r (h r hr)) 1048576 (by omega) (by omega)
theorem markCns_le (cs : List Conn) (k : Int) (hk : 0 ≤ k) (hk2 : k ≤ 2097153) (h : CnsB cs) : ∃ r, laws_markConnS (cs, k) = some r ∧ 0 ≤ r.1 ∧ r.1 ≤ 600000000000 := by
  obtain ⟨hl, hr⟩ := h
  have hML : ∀ i : Int, 0 ≤ i → i ≤ cs.length → 0 ≤ (1048576 - (cs.length : Int)) * i ∧ (1048576 - (cs.length : Int)) * i ≤ 274877906944 := by
    intro i i0 i1
    refine ⟨Int.mul_nonneg (by omega) i0, ?_⟩
    have h1 : (1048576 - (cs.length : Int)) * i ≤ (1048576 - (cs.length : Int)) * (cs.length : Int) := Int.mul_le_mul_of_nonneg_left i1 (by omega)
    have h2 : (1048576 - (cs.length : Int)) * (cs.length : Int) ≤ 274877906944 := by
      have h3 : 0 ≤ ((cs.length : Int) - 524288) * ((cs.length : Int) - 524288) := by
        rcases Int.le_total 0 ((cs.length : Int) - 524288) with q | q
        · exact Int.mul_nonneg q q
        · exact Int.mul_nonneg_of_nonpos_of_nonpos q q
      have h4 : ((cs.length : Int) - 524288) * ((cs.length : Int) - 524288) = (cs.length : Int) * (cs.length : Int) - 1048576 * (cs.length : Int) + 274877906944 := by
        rw [Int.sub_mul, Int.mul_sub, Int.mul_sub]; omega
      rw [Int.sub_mul]; omega
    omega
  unfold CnB at hr
  generalize hM : 1048576 - (cs.length : Int) = M at *
  unfold laws_markConnS
  try dsimp only
  refine loop_spec (fun s : Int × (Int × List Conn) => 0 ≤ s.2.1 ∧ s.2.1 ≤ cs.length ∧ (0 ≤ s.1 ∧ s.1 ≤ k + 3 * s.2.1 + 2 * (M * s.2.1)) ∧ s.2.2.length = cs.length ∧ (∀ j : Nat, s.2.1 ≤ (j : Int) → s.2.2[j]? = cs[j]?)) (fun r : Int × List Conn => 0 ≤ r.1 ∧ r.1 ≤ 600000000000) (fun s => (cs.length - s.2.1).toNat) (fun s hs1 => ?_) (k, 0, cs) ⟨by simp, by simp, by simp only; omega, by simp, fun j _ => rfl⟩
  obtain ⟨m, i, acc⟩ := s
  obtain ⟨i0, i1, ⟨im, im2⟩, i2, i3⟩ := hs1
  simp only at i0 i1 im im2 i2 i3
  try dsimp only
  by_cases hi : i < (cs.length : Int)
  · left
    obtain ⟨n, rfl⟩ : ∃ n : Nat, i = (n : Int) := ⟨i.toNat, by omega⟩
    have hn : n < cs.length := by omega
    have hacc : n < acc.length := by omega
    have e1 : acc[n] = cs[n] := by
      have := i3 n (by omega)
      rw [List.getElem?_eq_getElem hacc, List.getElem?_eq_getElem hn] at this
      exact Option.some.inj this
    have hr1 := hr _ (List.getElem_mem hn)
    have hm1 := hML (n : Int) (by omega) (by omega)
    have hm2 : M * ((n : Int) + 1) = M * n + M := by rw [Int.mul_add, Int.mul_one]
    have gs : ∀ (a : List Conn) (x : Conn), n < a.length → gget ((0, ((0, 0), [])) : Conn) (a.set n x) (n : Int) = some x := fun a x ha => by
      rw [gget_nat (by rw [List.length_set]; exact ha), List.getElem_set_self]
    rw [dt (show (n : Int) < (acc.length : Int) by omega), cond_true, gin_nat hacc, gget_nat hacc, e1]
    simp only [Option.bind_some]
    rw [gset_nat, List.length_set, gin_nat hacc, gs _ _ hacc]
    simp only [Option.bind_some]
    rw [gset_nat, List.set_set, List.length_set, gin_nat hacc, gs _ _ hacc]
    simp only [Option.bind_some]
    rw [gset_nat, List.set_set, List.length_set, gin_nat hacc, gs _ _ hacc]
    simp only [Option.bind_some]
    rw [wrap_ok (z := m + 1) (by omega), wrap_ok (z := m + 1 + 1) (by omega), wrap_ok (z := m + 1 + 1 + 1) (by omega)]
    obtain ⟨r, er, er0, er1⟩ := markPinS_ok (cs[n]).2.2 (m + 1 + 1 + 1) (by omega) (by omega) (by omega)
    rw [er]
    simp only [Option.bind_some]
    rw [gset_nat, List.set_set, wrap_ok (z := (n : Int) + 1) (by omega)]
    refine ⟨_, rfl, ⟨by simp only; omega, by simp only; omega, by simp only; rw [hm2]; omega, by simp only [List.length_set]; exact i2, fun j hj => ?_⟩, by simp only; omega⟩
    simp only at hj ⊢
    rw [List.getElem?_set_ne (by omega)]
    exact i3 j (by omega)
  · right
    rw [df (by omega), cond_false]
    have hm1 := hML i (by omega) (by omega)
    exact ⟨_, rfl, im, by simp only; omega⟩
end Go.Pf

