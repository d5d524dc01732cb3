/-
  Own work. Networks of look-up tables: the laws' helpers (sizes, copies, comparisons, marks).
-/
import Derived.Test.YtjpkedhcbnklmaaUse
namespace Go.Pf
open Go Go.Pu
set_option linter.unusedVariables false

abbrev Seq := Int × (Int × List Int)
abbrev Lut := List Int × Int
abbrev Net := Int × (List Seq × (List Lut × List Int))
def SeqB (b : Int) (s : Seq) : Prop := (s.2.2.length : Int) ≤ b
def LutB (b : Int) (l : Lut) : Prop := (l.1.length : Int) ≤ b
def SeqsB (ss : List Seq) : Prop := ss.length ≤ 1048576 ∧ ∀ s ∈ ss, SeqB (1048576 - ss.length) s
def LutsB (ls : List Lut) : Prop := ls.length ≤ 1048576 ∧ ∀ l ∈ ls, LutB (1048576 - ls.length) l
def NetB (n : Net) : Prop := SeqsB n.2.1 ∧ LutsB n.2.2.1 ∧ n.2.2.2.length ≤ 1048576
theorem SeqsB.at {ss : List Seq} (h : SeqsB ss) {s : Seq} (hs : s ∈ ss) : s.2.2.length ≤ 1048576 := by
  have := h.2 s hs
  unfold SeqB at this; omega
theorem LutsB.at {ls : List Lut} (h : LutsB ls) {l : Lut} (hl : l ∈ ls) : l.1.length ≤ 1048576 := by
  have := h.2 l hl
  unfold LutB at this; omega
theorem szSeq_ok (s : Seq) (hl : s.2.2.length ≤ 9223372036854775807) : ∀ b : Int, 0 ≤ b → b ≤ 1048576 → laws_szSeq (s, b) = some (-1) ∨ (SeqB b s ∧ ∃ z, 0 ≤ z ∧ z ≤ b ∧ laws_szSeq (s, b) = some z) := by
  intro b b0 b1
  unfold laws_szSeq
  rcases szIntS_ok s.2.2 b b0 b1 hl with ⟨_, e⟩ | ⟨p, e⟩
  · left; rw [e]; rfl
  · right
    refine ⟨p, b - s.2.2.length, by omega, by omega, ?_⟩
    rw [e]
    simp only [Option.bind_some]
    rw [df (by omega), cond_false]
theorem szLut_ok (s : Lut) (hl : s.1.length ≤ 9223372036854775807) : ∀ b : Int, 0 ≤ b → b ≤ 1048576 → laws_szLut (s, b) = some (-1) ∨ (LutB b s ∧ ∃ z, 0 ≤ z ∧ z ≤ b ∧ laws_szLut (s, b) = some z) := by
  intro b b0 b1
  unfold laws_szLut
  rcases szIntS_ok s.1 b b0 b1 hl with ⟨_, e⟩ | ⟨p, e⟩
  · left; rw [e]; rfl
  · right
    refine ⟨p, b - s.1.length, by omega, by omega, ?_⟩
    rw [e]
    simp only [Option.bind_some]
    rw [df (by omega), cond_false]
theorem szNet_ok (n : Net) (h1 : n.2.1.length ≤ 9223372036854775807) (h2 : ∀ s ∈ n.2.1, List.length s.2.2 ≤ 9223372036854775807) (h3 : n.2.2.1.length ≤ 9223372036854775807) (h4 : ∀ l ∈ n.2.2.1, List.length l.1 ≤ 9223372036854775807) (h5 : n.2.2.2.length ≤ 9223372036854775807) : ∀ b : Int, 0 ≤ b → b ≤ 1048576 → laws_szLutNet (n, b) = some (-1) ∨ (NetB n ∧ ∃ z, 0 ≤ z ∧ z ≤ b ∧ laws_szLutNet (n, b) = some z) := by
  intro b b0 b1
  unfold laws_szLutNet
  try dsimp only
  rcases szlistB (0, (0, [])) laws_szSeq SeqB (fun b c x h1 h2 => by unfold SeqB at *; omega) n.2.1 h1 (fun s hs => szSeq_ok s (h2 s hs)) b b0 b1 with e | ⟨hb, z, z0, z1, e⟩
  · have e' : laws_szSeqS (n.2.1, b) = some (-1) := e
    left; rw [e']; rfl
  have e' : laws_szSeqS (n.2.1, b) = some z := e
  rw [e']
  simp only [Option.bind_some]
  rw [df (by omega), cond_false]
  rcases szlistB ([], 0) laws_szLut LutB (fun b c x h1 h2 => by unfold LutB at *; omega) n.2.2.1 h3 (fun s hs => szLut_ok s (h4 s hs)) z z0 (by omega) with e2 | ⟨hb2, w, w0, w1, e2⟩
  · have e2' : laws_szLutS (n.2.2.1, z) = some (-1) := e2
    left; rw [e2']; rfl
  have e2' : laws_szLutS (n.2.2.1, z) = some w := e2
  rw [e2']
  simp only [Option.bind_some]
  rw [df (by omega), cond_false]
  rcases szIntS_ok n.2.2.2 w w0 (by omega) h5 with ⟨_, e3⟩ | ⟨p, e3⟩
  · left; rw [e3]; rfl
  · right
    refine ⟨⟨⟨hb.1, fun s hs => ?_⟩, ⟨hb2.1, fun s hs => ?_⟩, by omega⟩, w - n.2.2.2.length, by omega, by omega, ?_⟩
    · have := hb.2 s hs; unfold SeqB at *; omega
    · have := hb2.2 s hs; unfold LutB at *; omega
    · rw [e3]
      simp only [Option.bind_some]
      rw [df (by omega), cond_false]
theorem toNet_ok (n : Net) (h : NetB n) : laws_toLutNet n = some n := by
  unfold laws_toLutNet
  have e1 : laws_toSeqS n.2.1 = some n.2.1 := toL_ok 40 (0, (0, [])) laws_toSeq n.2.1 h.1.1 (by omega) (fun s hs => by
    unfold laws_toSeq
    rw [toIntS_ok s.2.2 (h.1.at hs)]; rfl)
  have e2 : laws_toLutS n.2.2.1 = some n.2.2.1 := toL_ok 32 ([], 0) laws_toLut n.2.2.1 h.2.1.1 (by omega) (fun s hs => by
    unfold laws_toLut
    rw [toIntS_ok s.1 (h.2.1.at hs)]; rfl)
  rw [e1]
  simp only [Option.bind_some]
  rw [e2]
  simp only [Option.bind_some]
  rw [toIntS_ok n.2.2.2 h.2.2]; rfl
theorem eqNet_refl (n : Net) (h : NetB n) : laws_eqLutNet (n, n) = some true := by
  unfold laws_eqLutNet
  have e1 : laws_eqSeqS (n.2.1, n.2.1) = some true := eqL_refl (0, (0, [])) laws_eqSeq n.2.1 (by have := h.1.1; omega) (fun s hs => by
    have hl := h.1.at hs
    unfold laws_eqSeq
    simp only [ne_eq, not_true_eq_false, decide_false, cond_false, eqIntS_ok s.2.2 s.2.2 (by omega), decide_true, Option.bind_some, Bool.not_true])
  have e2 : laws_eqLutS (n.2.2.1, n.2.2.1) = some true := eqL_refl ([], 0) laws_eqLut n.2.2.1 (by have := h.2.1.1; omega) (fun s hs => by
    have hl := h.2.1.at hs
    unfold laws_eqLut
    simp only [ne_eq, not_true_eq_false, decide_false, cond_false, eqIntS_ok s.1 s.1 (by omega), decide_true, Option.bind_some, Bool.not_true])
  have h3 := h.2.2
  simp only [ne_eq, not_true_eq_false, decide_false, cond_false, e1, e2, eqIntS_ok n.2.2.2 n.2.2.2 (by omega), decide_true, Option.bind_some, Bool.not_true]
theorem mlen (n : Nat) (hn : n ≤ 1048576) (i : Int) (i0 : 0 ≤ i) (i1 : i ≤ n) : 0 ≤ (1048576 - (n : Int)) * i ∧ (1048576 - (n : Int)) * i ≤ 274877906944 := by
  refine ⟨Int.mul_nonneg (by omega) i0, ?_⟩
  have h1 : (1048576 - (n : Int)) * i ≤ (1048576 - (n : Int)) * (n : Int) := Int.mul_le_mul_of_nonneg_left i1 (by omega)
  have h2 : (1048576 - (n : Int)) * (n : Int) ≤ 274877906944 := by
    have h3 : 0 ≤ ((n : Int) - 524288) * ((n : Int) - 524288) := by
      rcases Int.le_total 0 ((n : Int) - 524288) with q | q
      · exact Int.mul_nonneg q q
      · exact Int.mul_nonneg_of_nonpos_of_nonpos q q
    have h4 : ((n : Int) - 524288) * ((n : Int) - 524288) = (n : Int) * (n : Int) - 1048576 * (n : Int) + 274877906944 := by
      rw [Int.sub_mul, Int.mul_sub, Int.mul_sub]; omega
    rw [Int.sub_mul]; omega
  omega
theorem markSeqS_ok (ss : List Seq) (k : Int) (hk : 0 ≤ k) (hk2 : k ≤ 600000000000) (h : SeqsB ss) : ∃ r, laws_markSeqS (ss, k) = some r ∧ 0 ≤ r.1 ∧ r.1 ≤ k + 274880004096 := by
  obtain ⟨hl, hr⟩ := h
  have hML := mlen ss.length hl
  unfold SeqB at hr
  generalize hM : 1048576 - (ss.length : Int) = M at *
  have hMlen := hML ss.length (by omega) (by omega)
  unfold laws_markSeqS
  try dsimp only
  refine loop_spec (fun s : Int × (Int × List Seq) => 0 ≤ s.2.1 ∧ s.2.1 ≤ ss.length ∧ (0 ≤ s.1 ∧ s.1 ≤ k + 2 * s.2.1 + M * s.2.1) ∧ s.2.2.length = ss.length ∧ (∀ j : Nat, s.2.1 ≤ (j : Int) → s.2.2[j]? = ss[j]?)) (fun r : Int × List Seq => 0 ≤ r.1 ∧ r.1 ≤ k + 274880004096) (fun s => (ss.length - s.2.1).toNat) (fun s hs1 => ?_) (k, 0, ss) ⟨by simp, by simp, by simp only; omega, by simp, fun j _ => rfl⟩
  obtain ⟨m, i, acc⟩ := s
  obtain ⟨i0, i1, ⟨im, im2⟩, i2, i3⟩ := hs1
  simp only at i0 i1 im im2 i2 i3
  try dsimp only
  by_cases hi : i < (ss.length : Int)
  · left
    obtain ⟨n, rfl⟩ : ∃ n : Nat, i = (n : Int) := ⟨i.toNat, by omega⟩
    have hn : n < ss.length := by omega
    have hacc : n < acc.length := by omega
    have e1 : acc[n] = ss[n] := by
      have := i3 n (by omega)
      rw [List.getElem?_eq_getElem hacc, List.getElem?_eq_getElem hn] at this
      exact Option.some.inj this
    have hr1 := hr _ (List.getElem_mem hn)
    have hm1 := hML (n : Int) (by omega) (by omega)
    have hm2 : M * ((n : Int) + 1) = M * n + M := by rw [Int.mul_add, Int.mul_one]
    have gs : ∀ (a : List Seq) (x : Seq), n < a.length → gget ((0, (0, [])) : Seq) (a.set n x) (n : Int) = some x := fun a x ha => by
      rw [gget_nat (by rw [List.length_set]; exact ha), List.getElem_set_self]
    rw [dt (show (n : Int) < (acc.length : Int) by omega), cond_true, gin_nat hacc, gget_nat hacc, e1]
    simp only [Option.bind_some]
    rw [gset_nat, List.length_set, gin_nat hacc, gs _ _ hacc]
    simp only [Option.bind_some]
    rw [gset_nat, List.set_set, List.length_set, gin_nat hacc, gs _ _ hacc]
    simp only [Option.bind_some]
    rw [wrap_ok (z := m + 1) (by omega), wrap_ok (z := m + 1 + 1) (by omega), markIntS_ok (ss[n]).2.2 (m + 1 + 1) (by omega) (by omega) (by omega)]
    simp only [Option.bind_some]
    rw [gset_nat, List.set_set, wrap_ok (z := (n : Int) + 1) (by omega)]
    refine ⟨_, rfl, ⟨by simp only; omega, by simp only; omega, by simp only; rw [hm2]; omega, by simp only [List.length_set]; exact i2, fun j hj => ?_⟩, by simp only; omega⟩
    simp only at hj ⊢
    rw [List.getElem?_set_ne (by omega)]
    exact i3 j (by omega)
  · right
    rw [df (by omega), cond_false]
    have : i = (ss.length : Int) := by omega
    subst this
    exact ⟨_, rfl, im, by simp only; omega⟩
theorem markLutS_ok (ss : List Lut) (k : Int) (hk : 0 ≤ k) (hk2 : k ≤ 600000000000) (h : LutsB ss) : ∃ r, laws_markLutS (ss, k) = some r ∧ 0 ≤ r.1 ∧ r.1 ≤ k + 274880004096 := by
  obtain ⟨hl, hr⟩ := h
  have hML := mlen ss.length hl
  unfold LutB at hr
  generalize hM : 1048576 - (ss.length : Int) = M at *
  have hMlen := hML ss.length (by omega) (by omega)
  unfold laws_markLutS
  try dsimp only
  refine loop_spec (fun s : Int × (Int × List Lut) => 0 ≤ s.2.1 ∧ s.2.1 ≤ ss.length ∧ (0 ≤ s.1 ∧ s.1 ≤ k + 2 * s.2.1 + M * s.2.1) ∧ s.2.2.length = ss.length ∧ (∀ j : Nat, s.2.1 ≤ (j : Int) → s.2.2[j]? = ss[j]?)) (fun r : Int × List Lut => 0 ≤ r.1 ∧ r.1 ≤ k + 274880004096) (fun s => (ss.length - s.2.1).toNat) (fun s hs1 => ?_) (k, 0, ss) ⟨by simp, by simp, by simp only; omega, by simp, fun j _ => rfl⟩
  obtain ⟨m, i, acc⟩ := s
  obtain ⟨i0, i1, ⟨im, im2⟩, i2, i3⟩ := hs1
  simp only at i0 i1 im im2 i2 i3
  try dsimp only
  by_cases hi : i < (ss.length : Int)
  · left
    obtain ⟨n, rfl⟩ : ∃ n : Nat, i = (n : Int) := ⟨i.toNat, by omega⟩
    have hn : n < ss.length := by omega
    have hacc : n < acc.length := by omega
    have e1 : acc[n] = ss[n] := by
      have := i3 n (by omega)
      rw [List.getElem?_eq_getElem hacc, List.getElem?_eq_getElem hn] at this
      exact Option.some.inj this
    have hr1 := hr _ (List.getElem_mem hn)
    have hm1 := hML (n : Int) (by omega) (by omega)
    have hm2 : M * ((n : Int) + 1) = M * n + M := by rw [Int.mul_add, Int.mul_one]
    have gs : ∀ (a : List Lut) (x : Lut), n < a.length → gget (([], 0) : Lut) (a.set n x) (n : Int) = some x := fun a x ha => by
      rw [gget_nat (by rw [List.length_set]; exact ha), List.getElem_set_self]
    rw [dt (show (n : Int) < (acc.length : Int) by omega), cond_true, gin_nat hacc, gget_nat hacc, e1]
    simp only [Option.bind_some]
    rw [markIntS_ok (ss[n]).1 m (by omega) (by omega) (by omega)]
    simp only [Option.bind_some]
    rw [gset_nat, List.length_set, gin_nat hacc, gs _ _ hacc]
    simp only [Option.bind_some]
    rw [gset_nat, List.set_set, wrap_ok (z := m + ((ss[n]).1.length : Int) + 1) (by omega), wrap_ok (z := (n : Int) + 1) (by omega)]
    refine ⟨_, rfl, ⟨by simp only; omega, by simp only; omega, by simp only; rw [hm2]; omega, by simp only [List.length_set]; exact i2, fun j hj => ?_⟩, by simp only; omega⟩
    simp only at hj ⊢
    rw [List.getElem?_set_ne (by omega)]
    exact i3 j (by omega)
  · right
    rw [df (by omega), cond_false]
    have : i = (ss.length : Int) := by omega
    subst this
    exact ⟨_, rfl, im, by simp only; omega⟩
theorem markNet_ok (n : Net) (k : Int) (hk : 0 ≤ k) (hk2 : k ≤ 2097153) (h : NetB n) : ∃ r, laws_markLutNet (n, k) = some r ∧ 0 ≤ r.1 ∧ r.1 ≤ k + 549761056768 := by
  obtain ⟨r, e, r0, r1⟩ := markSeqS_ok n.2.1 k hk (by omega) h.1
  obtain ⟨q, e2, q0, q1⟩ := markLutS_ok n.2.2.1 r.1 r0 (by omega) h.2.1
  have h3 := h.2.2
  unfold laws_markLutNet
  simp only [e, e2, Option.bind_some]
  rw [markIntS_ok n.2.2.2 q.1 q0 (by omega) h3]
  exact ⟨_, rfl, by simp only; omega, by simp only; omega⟩
end Go.Pf

