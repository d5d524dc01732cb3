/-
  Own work. The law of delays along arcs, plainly: it says true.
-/
import Derived.Test.YtnlcnnmdalgibaaDrw
import Derived.Test.YtnlcnnmdalgibaaDly
namespace Go.Pf
open Go Go.Pu
set_option linter.unusedVariables false

theorem graph36_ok {b : List Int} {c : Cur} (hb : CdOk b) (hc : CurOk b c) : ∃ g c', spec_l36Graph (b, c) = some (g, c') ∧ CurOk b c' ∧ timP g = true ∧ 2 ≤ g.1 ∧ g.1 ≤ 9 := by
  unfold spec_l36Graph
  dsimp only
  obtain ⟨x, c1, e1, k1, _, hx⟩ := below_ok hb hc 8
  obtain ⟨m, c2, e2, k2, _, hm⟩ := below_ok hb k1 16
  have hx := hx (by omega)
  have hm := hm (by omega)
  rw [e1]
  simp only [Option.bind_some]
  rw [e2]
  simp only [Option.bind_some]
  rw [wrap_ok (z := 2 + x) (by omega)]
  have key := loop_spec (f := (fun (v4 : (Int × (Int × (Int × List (Int × (Int × Int)))))) =>
    let v5 : Bool := decide (0 < v4.1)
    bif v5 then (
      let v6 : Int := wrap .i64 (2 + x - 1)
      (spec_l01Below ((b, (v4.2.1, v4.2.2.1)), v6)).bind fun v7 =>
      let v8 : Int := wrap .i64 (1 + v7.1)
      (spec_l01Below ((b, v7.2), v8)).bind fun v9 =>
      (spec_l01Below ((b, v9.2), 12)).bind fun v10 =>
      let v11 : List (Int × (Int × Int)) := [(v9.1, (v8, v10.1))]
      (gapp 24 v4.2.2.2 v11).bind fun v12 =>
      let v13 : Int := wrap .i64 (v4.1 - 1)
      some (.inl (v13, (v10.2.1, (v10.2.2, v12))))) else
    Option.map Sum.inr (
      some ((2 + x, v4.2.2.2), (v4.2.1, v4.2.2.1))))) (fun s => (0 ≤ s.1 ∧ s.1 ≤ 16) ∧ CurOk b (s.2.1, s.2.2.1) ∧ (s.2.2.2.length : Int) + s.1 ≤ 16 ∧ ∀ a ∈ s.2.2.2, arcP (2 + x) a = true) (fun o : (Int × List (Int × (Int × Int))) × (Int × Int) => CurOk b o.2 ∧ timP o.1 = true ∧ 2 ≤ o.1.1 ∧ o.1.1 ≤ 9) (fun s => s.1.toNat) (fun s hs => ?_) (m, (c2.1, (c2.2, []))) ⟨⟨by simp only; omega, by simp only; omega⟩, k2, by simp only [List.length_nil]; omega, by simp⟩
  · obtain ⟨o, h1, h2, h3⟩ := key
    dsimp only at h1
    exact ⟨o.1, o.2, h1, h2, h3⟩
  · obtain ⟨i, p, q, as⟩ := s
    obtain ⟨⟨i0, i1⟩, hc, hl, ha⟩ := hs
    simp only at i0 i1 hc hl ha
    dsimp only
    by_cases h1 : 0 < i
    · left
      rw [dt h1, cond_true, wrap_ok (z := 2 + x - 1) (by omega)]
      obtain ⟨y, d1, f1, g1, _, hy⟩ := below_ok hb hc (2 + x - 1)
      have hy := hy (by omega)
      rw [f1]
      simp only [Option.bind_some]
      rw [wrap_ok (z := 1 + y) (by omega)]
      obtain ⟨u, d2, f2, g2, _, hu⟩ := below_ok hb g1 (1 + y)
      obtain ⟨w, d3, f3, g3, _, hw⟩ := below_ok hb g2 12
      have hu := hu (by omega)
      have hw := hw (by omega)
      rw [f2]
      simp only [Option.bind_some]
      rw [f3]
      simp only [Option.bind_some]
      rw [gapp24 (by simp only [List.length_singleton]; omega), wrap_ok (z := i - 1) (by omega)]
      refine ⟨_, rfl, ⟨⟨by simp only; omega, by simp only; omega⟩, g3, by simp only [List.length_append, List.length_singleton]; omega, fun a hm => ?_⟩, by simp only; omega⟩
      simp only at hm
      rcases List.mem_append.1 hm with hm | hm
      · exact ha a hm
      · rw [List.mem_singleton.1 hm]
        unfold arcP
        simp only [decide_eq_true_eq]
        omega
    · right
      rw [df h1, cond_false]
      refine ⟨_, rfl, hc, ?_, by simp only; omega, by simp only; omega⟩
      unfold timP
      simp only [Bool.and_eq_true, decide_eq_true_eq, List.all_eq_true]
      exact ⟨by omega, ha⟩
theorem drawGraph_ok {b : List Int} (hb : CdOk b) : ∃ g ls r, spec_DrawGraph b = some (g, (ls, r)) ∧ timP g = true ∧ 2 ≤ g.1 ∧ g.1 ≤ 9 ∧ 0 < ls.length ∧ ptsP g ls = true := by
  unfold spec_DrawGraph
  dsimp only
  obtain ⟨c0, e0, k0⟩ := new_ok hb
  obtain ⟨g, c1, e1, k1, ht, hg2, hg9⟩ := graph36_ok hb k0
  obtain ⟨m, c2, e2, k2, _, hm⟩ := below_ok hb k1 3
  have hm := hm (by omega)
  rw [e0]
  simp only [Option.bind_some]
  rw [e1]
  simp only [Option.bind_some]
  rw [e2]
  simp only [Option.bind_some]
  rw [wrap_ok (z := 1 + m) (by omega)]
  have key := loop_spec (f := (fun (v5 : (Int × (Int × (Int × (List (Int × Int) × (List (Int × Int) × List (Int × (Int × Int)))))))) =>
    let v6 : Bool := decide (0 < v5.1)
    bif v6 then (
      (spec_l01Below ((b, (v5.2.1, v5.2.2.1)), g.1)).bind fun v7 =>
      (spec_l01Below ((b, v7.2), 9)).bind fun v8 =>
      let v9 : List (Int × Int) := [(v7.1, v8.1)]
      (gapp 16 v5.2.2.2.1 v9).bind fun v10 =>
      (spec_l01Below ((b, v8.2), g.1)).bind fun v11 =>
      (spec_l01Below ((b, v11.2), 9)).bind fun v12 =>
      let v13 : List (Int × Int) := [(v11.1, v12.1)]
      (gapp 16 v5.2.2.2.2.1 v13).bind fun v14 =>
      (spec_l01Below ((b, v12.2), 4)).bind fun v15 =>
      (spec_l01Below ((b, v15.2), 4)).bind fun v16 =>
      (spec_l01Below ((b, v16.2), 4)).bind fun v17 =>
      let v18 : List (Int × (Int × Int)) := [(v15.1, (v16.1, v17.1))]
      (gapp 24 v5.2.2.2.2.2 v18).bind fun v19 =>
      let v20 : Int := wrap .i64 (v5.1 - 1)
      some (.inl (v20, (v17.2.1, (v17.2.2, (v10, (v14, v19))))))) else
    Option.map Sum.inr (
      some (g, v5.2.2.2)))) (fun s => (0 ≤ s.1 ∧ s.1 ≤ 3) ∧ CurOk b (s.2.1, s.2.2.1) ∧ ((s.2.2.2.1.length : Int) + s.1 ≤ 3 ∧ (s.2.2.2.2.1.length : Int) + s.1 ≤ 3 ∧ (s.2.2.2.2.2.length : Int) + s.1 ≤ 3) ∧ 1 ≤ (s.2.2.2.1.length : Int) + s.1 ∧ ∀ a ∈ s.2.2.2.1, ptP g.1 a = true)
    (fun o : (Int × List (Int × (Int × Int))) × (List (Int × Int) × (List (Int × Int) × List (Int × (Int × Int)))) => o.1 = g ∧ 0 < o.2.1.length ∧ ptsP g o.2.1 = true) (fun s => s.1.toNat) (fun s hs => ?_) (1 + m, (c2.1, (c2.2, ([], ([], []))))) ⟨⟨by simp only; omega, by simp only; omega⟩, k2, ⟨by simp only [List.length_nil]; omega, by simp only [List.length_nil]; omega, by simp only [List.length_nil]; omega⟩, by simp only [List.length_nil]; omega, by simp⟩
  · obtain ⟨⟨g', ls, r⟩, h1, h2, h3, h4⟩ := key
    simp only at h2 h3 h4
    subst h2
    dsimp only at h1
    exact ⟨g', ls, r, h1, ht, hg2, hg9, h3, h4⟩
  · obtain ⟨i, p, q, as, bs, cs⟩ := s
    obtain ⟨⟨i0, i1⟩, hc, ⟨hl1, hl2, hl3⟩, hl, ha⟩ := hs
    simp only at i0 i1 hc hl hl1 hl2 hl3 ha
    dsimp only
    by_cases h1 : 0 < i
    · left
      rw [dt h1, cond_true]
      obtain ⟨y1, d1, f1, g1, _, hy1⟩ := below_ok hb hc g.1
      obtain ⟨y2, d2, f2, g2, _, hy2⟩ := below_ok hb g1 9
      obtain ⟨y3, d3, f3, g3, _⟩ := below_ok hb g2 g.1
      obtain ⟨y4, d4, f4, g4, _⟩ := below_ok hb g3 9
      obtain ⟨y5, d5, f5, g5, _⟩ := below_ok hb g4 4
      obtain ⟨y6, d6, f6, g6, _⟩ := below_ok hb g5 4
      obtain ⟨y7, d7, f7, g7, _⟩ := below_ok hb g6 4
      have hy1 := hy1 (by omega)
      have hy2 := hy2 (by omega)
      rw [f1]
      simp only [Option.bind_some]
      rw [f2]
      simp only [Option.bind_some]
      rw [gapp_some (by simp only [List.length_singleton]; omega) (by simp only [List.length_singleton]; omega)]
      simp only [Option.bind_some]
      rw [f3]
      simp only [Option.bind_some]
      rw [f4]
      simp only [Option.bind_some]
      rw [gapp_some (by simp only [List.length_singleton]; omega) (by simp only [List.length_singleton]; omega)]
      simp only [Option.bind_some]
      rw [f5]
      simp only [Option.bind_some]
      rw [f6]
      simp only [Option.bind_some]
      rw [f7]
      simp only [Option.bind_some]
      rw [gapp24 (by simp only [List.length_singleton]; omega), wrap_ok (z := i - 1) (by omega)]
      refine ⟨_, rfl, ⟨⟨by simp only; omega, by simp only; omega⟩, g7, ⟨by simp only [List.length_append, List.length_singleton]; omega, by simp only [List.length_append, List.length_singleton]; omega, by simp only [List.length_append, List.length_singleton]; omega⟩, by simp only [List.length_append, List.length_singleton]; omega, fun a hm => ?_⟩, by simp only; omega⟩
      simp only at hm
      rcases List.mem_append.1 hm with hm | hm
      · exact ha a hm
      · rw [List.mem_singleton.1 hm]
        unfold ptP
        simp only [decide_eq_true_eq]
        omega
    · right
      rw [df h1, cond_false]
      refine ⟨_, rfl, rfl, by simp only; omega, ?_⟩
      unfold ptsP
      simp only [Bool.and_eq_true, decide_eq_true_eq, List.all_eq_true]
      exact ⟨ht, by omega, ha⟩

def vl (D : List Int) (a : Arc) : Int := D.getD a.1.toNat 0
def LOk (D : List Int) (M : Int) (l : List Arc) : Prop := ∀ a ∈ l, (-1 ≤ vl D a ∧ vl D a ≤ M) ∧ 0 ≤ a.2.2 ∧ a.2.2 ≤ 100
theorem dS_long {D : List Int} {b : Int} {a : Arc} (h : -1000000 ≤ vl D a + a.2.2 ∧ vl D a + a.2.2 ≤ 10000000) : dS true D b a = if vl D a < 0 then b else if b < vl D a + a.2.2 ∨ b < 0 then vl D a + a.2.2 else b := by
  unfold dS
  change (if vl D a < 0 then b else if b < 0 then wrap .i64 (vl D a + a.2.2) else bif true then (if b < wrap .i64 (vl D a + a.2.2) then wrap .i64 (vl D a + a.2.2) else b) else _) = _
  rw [wrap_ok (by omega), cond_true]
  by_cases c1 : vl D a < 0
  · rw [if_pos c1, if_pos c1]
  rw [if_neg c1, if_neg c1]
  by_cases c2 : b < 0
  · rw [if_pos c2, if_pos (.inr c2)]
  rw [if_neg c2]
  by_cases c3 : b < vl D a + a.2.2
  · rw [if_pos c3, if_pos (.inl c3)]
  · rw [if_neg c3, if_neg (fun e => by rcases e with e | e; exact c3 e; exact c2 e)]
theorem dS_short {D : List Int} {b : Int} {a : Arc} (h : -1000000 ≤ vl D a + a.2.2 ∧ vl D a + a.2.2 ≤ 10000000) : dS false D b a = if vl D a < 0 then b else if vl D a + a.2.2 < b ∨ b < 0 then vl D a + a.2.2 else b := by
  unfold dS
  change (if vl D a < 0 then b else if b < 0 then wrap .i64 (vl D a + a.2.2) else bif false then _ else (if wrap .i64 (vl D a + a.2.2) < b then wrap .i64 (vl D a + a.2.2) else b)) = _
  rw [wrap_ok (by omega), cond_false]
  by_cases c1 : vl D a < 0
  · rw [if_pos c1, if_pos c1]
  rw [if_neg c1, if_neg c1]
  by_cases c2 : b < 0
  · rw [if_pos c2, if_pos (.inr c2)]
  rw [if_neg c2]
  by_cases c3 : vl D a + a.2.2 < b
  · rw [if_pos c3, if_pos (.inl c3)]
  · rw [if_neg c3, if_neg (fun e => by rcases e with e | e; exact c3 e; exact c2 e)]
theorem dB_long {D : List Int} {M b0 : Int} {l : List Arc} (hM : 0 ≤ M ∧ M ≤ 1000000) (hb : b0 = 0 ∨ b0 = -1) (hD : LOk D M l) : ∀ j, j ≤ l.length →
    (b0 ≤ dB true D b0 l j ∧ dB true D b0 l j ≤ M + 100) ∧ (∀ a ∈ l.take j, 0 ≤ vl D a → vl D a + a.2.2 ≤ dB true D b0 l j) ∧ (dB true D b0 l j = b0 ∨ ∃ a ∈ l.take j, 0 ≤ vl D a ∧ dB true D b0 l j = vl D a + a.2.2) := by
  intro j
  induction j with
  | zero => intro _; exact ⟨⟨Int.le_refl _, by show b0 ≤ _; omega⟩, fun a ha => by simp at ha, .inl rfl⟩
  | succ j ih =>
    intro hj
    obtain ⟨h1, h2, h3⟩ := ih (by omega)
    have hj' : j < l.length := by omega
    obtain ⟨⟨v0, v1⟩, d0, d1⟩ := hD l[j] (List.getElem_mem hj')
    have mem : ∀ t, t ∈ l.take (j + 1) ↔ t ∈ l.take j ∨ t = l[j] := fun t => by rw [take_succ' l j hj', List.mem_append, List.mem_singleton]
    rw [dB_succ true D b0 l j hj', dS_long (by omega)]
    generalize dB true D b0 l j = r at *
    by_cases c1 : vl D l[j] < 0
    · rw [if_pos c1]
      refine ⟨h1, fun a ha h0 => ?_, ?_⟩
      · rcases (mem a).1 ha with h | rfl
        · exact h2 a h h0
        · omega
      · rcases h3 with h3 | ⟨a, ha, h3⟩
        · exact .inl h3
        · exact .inr ⟨a, (mem a).2 (.inl ha), h3⟩
    rw [if_neg c1]
    by_cases c2 : r < vl D l[j] + l[j].2.2 ∨ r < 0
    · rw [if_pos c2]
      clear h3
      refine ⟨⟨by omega, by omega⟩, fun a ha h0 => ?_, .inr ⟨_, (mem _).2 (.inr rfl), by omega, rfl⟩⟩
      rcases (mem a).1 ha with h | rfl
      · have := h2 a h h0; omega
      · exact Int.le_refl _
    · rw [if_neg c2]
      refine ⟨h1, fun a ha h0 => ?_, ?_⟩
      · rcases (mem a).1 ha with h | rfl
        · exact h2 a h h0
        · omega
      · rcases h3 with h3 | ⟨a, ha, h3⟩
        · exact .inl h3
        · exact .inr ⟨a, (mem a).2 (.inl ha), h3⟩
theorem dB_short {D : List Int} {M b0 : Int} {l : List Arc} (hM : 0 ≤ M ∧ M ≤ 1000000) (hb : b0 = 0 ∨ b0 = -1) (hD : LOk D M l) : ∀ j, j ≤ l.length →
    (b0 ≤ dB false D b0 l j ∧ dB false D b0 l j ≤ M + 100) ∧ (∀ a ∈ l.take j, 0 ≤ vl D a → 0 ≤ dB false D b0 l j ∧ dB false D b0 l j ≤ vl D a + a.2.2) ∧ (dB false D b0 l j = b0 ∨ ∃ a ∈ l.take j, 0 ≤ vl D a ∧ dB false D b0 l j = vl D a + a.2.2) := by
  intro j
  induction j with
  | zero => intro _; exact ⟨⟨Int.le_refl _, by show b0 ≤ _; omega⟩, fun a ha => by simp at ha, .inl rfl⟩
  | succ j ih =>
    intro hj
    obtain ⟨h1, h2, h3⟩ := ih (by omega)
    have hj' : j < l.length := by omega
    obtain ⟨⟨v0, v1⟩, d0, d1⟩ := hD l[j] (List.getElem_mem hj')
    have mem : ∀ t, t ∈ l.take (j + 1) ↔ t ∈ l.take j ∨ t = l[j] := fun t => by rw [take_succ' l j hj', List.mem_append, List.mem_singleton]
    rw [dB_succ false D b0 l j hj', dS_short (by omega)]
    generalize dB false D b0 l j = r at *
    by_cases c1 : vl D l[j] < 0
    · rw [if_pos c1]
      refine ⟨h1, fun a ha h0 => ?_, ?_⟩
      · rcases (mem a).1 ha with h | rfl
        · exact h2 a h h0
        · omega
      · rcases h3 with h3 | ⟨a, ha, h3⟩
        · exact .inl h3
        · exact .inr ⟨a, (mem a).2 (.inl ha), h3⟩
    rw [if_neg c1]
    by_cases c2 : vl D l[j] + l[j].2.2 < r ∨ r < 0
    · rw [if_pos c2]
      clear h3
      refine ⟨⟨by omega, by omega⟩, fun a ha h0 => ?_, .inr ⟨_, (mem _).2 (.inr rfl), by omega, rfl⟩⟩
      rcases (mem a).1 ha with h | rfl
      · have := h2 a h h0; omega
      · omega
    · rw [if_neg c2]
      refine ⟨h1, fun a ha h0 => ?_, ?_⟩
      · rcases (mem a).1 ha with h | rfl
        · exact h2 a h h0
        · omega
      · rcases h3 with h3 | ⟨a, ha, h3⟩
        · exact .inl h3
        · exact .inr ⟨a, (mem a).2 (.inl ha), h3⟩
def dAt (as : List Arc) (src : Int) (lng : Bool) (N v : Nat) : Int := (dD as src lng N).getD v 0
theorem dAt_pre (as : List Arc) (src : Int) (lng : Bool) {v n N : Nat} (h : v < n) (hn : n ≤ N) : dAt as src lng N v = dAt as src lng n v := by
  induction N with
  | zero => omega
  | succ N ih =>
    by_cases e : n = N + 1
    · subst e; rfl
    · rw [← ih (by omega)]
      unfold dAt
      show (dD as src lng N ++ [_]).getD v 0 = _
      rw [getD_app (by rw [dD_len]; omega)]
theorem dAt_eq (as : List Arc) (src : Int) (lng : Bool) {v N : Nat} (h : v < N) : dAt as src lng N v = dB lng (dD as src lng v) (if (v : Int) = src then 0 else -1) (into as v) (into as v).length := by
  rw [dAt_pre as src lng (Nat.lt_succ_self v) h]
  unfold dAt
  show (dD as src lng v ++ [_]).getD v 0 = _
  rw [List.getD, List.getElem?_append_right (by rw [dD_len]; omega), dD_len]; simp
/-- What the two lists of delays have in common. -/
structure DOK (g : TG) (src : Int) (N : Nat) (v : Nat) : Prop where
  bndA : -1 ≤ dAt g.2 src true N v ∧ dAt g.2 src true N v ≤ 100 * (v : Int)
  bndB : -1 ≤ dAt g.2 src false N v ∧ dAt g.2 src false N v ≤ 100 * (v : Int)
  sign : dAt g.2 src true N v < 0 ↔ dAt g.2 src false N v < 0
  ge : dAt g.2 src false N v ≤ dAt g.2 src true N v
  src0 : (v : Int) = src → dAt g.2 src true N v = 0
  arcA : ∀ a ∈ g.2, a.2.1 = (v : Int) → 0 ≤ dAt g.2 src true N a.1.toNat → dAt g.2 src true N a.1.toNat + a.2.2 ≤ dAt g.2 src true N v
  arcB : ∀ a ∈ g.2, a.2.1 = (v : Int) → 0 ≤ dAt g.2 src false N a.1.toNat → dAt g.2 src false N v ≤ dAt g.2 src false N a.1.toNat + a.2.2
  att : 0 ≤ dAt g.2 src true N v → (v : Int) = src ∨ ∃ a ∈ g.2, a.2.1 = (v : Int) ∧ 0 ≤ dAt g.2 src true N a.1.toNat ∧ dAt g.2 src true N v = dAt g.2 src true N a.1.toNat + a.2.2
theorem dok_all {g : TG} (h : timP g = true) (src : Int) (N : Nat) : ∀ n, n ≤ N → n ≤ 500 → ∀ v, v < n → DOK g src N v := by
  intro n
  induction n with
  | zero => intro _ _ v hv; omega
  | succ n ih =>
    intro hn h5 v hv
    by_cases e : v < n
    · exact ih (by omega) (by omega) v e
    have e : v = n := by omega
    subst e
    have ih := ih (by omega) (by omega)
    have hin : ∀ a ∈ into g.2 v, a ∈ g.2 ∧ a.2.1 = (v : Int) ∧ (0 ≤ a.1 ∧ a.1.toNat < v) ∧ 0 ≤ a.2.2 ∧ a.2.2 ≤ 100 := fun a ha => by
      obtain ⟨h1, h2⟩ := into_mem ha
      have h3 := timP_arc h h1
      exact ⟨h1, h2, by omega, by omega⟩
    have hvl : ∀ lng, ∀ a ∈ into g.2 v, vl (dD g.2 src lng v) a = dAt g.2 src lng N a.1.toNat := fun lng a ha => by
      obtain ⟨_, _, h3, _⟩ := hin a ha
      exact (dAt_pre g.2 src lng h3.2 (by omega)).symm
    have hbi : (if (v : Int) = src then (0 : Int) else -1) = 0 ∨ (if (v : Int) = src then (0 : Int) else -1) = -1 := by split; exact .inl rfl; exact .inr rfl
    have lA := dB_long (D := dD g.2 src true v) (M := 100 * (v : Int) - 100) (b0 := if (v : Int) = src then 0 else -1) (l := into g.2 v)
    have lB := dB_short (D := dD g.2 src false v) (M := 100 * (v : Int) - 100) (b0 := if (v : Int) = src then 0 else -1) (l := into g.2 v)
    by_cases hv0 : v = 0
    · subst hv0
      have hno : ∀ a ∈ into g.2 0, False := fun a ha => by obtain ⟨_, _, h3, _⟩ := hin a ha; omega
      have hnil : into g.2 0 = [] := by
        cases hq : into g.2 0 with
        | nil => rfl
        | cons a q => exact (hno a (by rw [hq]; simp)).elim
      have eA : ∀ lng, dAt g.2 src lng N 0 = if ((0 : Nat) : Int) = src then 0 else -1 := fun lng => by rw [dAt_eq g.2 src lng hn, hnil]; rfl
      have noarc : ∀ a ∈ g.2, a.2.1 = ((0 : Nat) : Int) → False := fun a ha h0 => by have := timP_arc h ha; omega
      refine ⟨by rw [eA]; split <;> omega, by rw [eA]; split <;> omega, by rw [eA, eA], by rw [eA, eA]; exact Int.le_refl _, fun hs => by rw [eA, if_pos hs], fun a ha h0 => (noarc a ha h0).elim, fun a ha h0 => (noarc a ha h0).elim, fun hp => ?_⟩
      rw [eA] at hp
      split at hp
      · rename_i hs; exact .inl hs
      · omega
    have hLA : LOk (dD g.2 src true v) (100 * (v : Int) - 100) (into g.2 v) := fun a ha => by
      obtain ⟨_, _, h3, h4⟩ := hin a ha
      rw [hvl true a ha]
      have := (ih a.1.toNat h3.2).bndA
      exact ⟨by omega, h4⟩
    have hLB : LOk (dD g.2 src false v) (100 * (v : Int) - 100) (into g.2 v) := fun a ha => by
      obtain ⟨_, _, h3, h4⟩ := hin a ha
      rw [hvl false a ha]
      have := (ih a.1.toNat h3.2).bndB
      exact ⟨by omega, h4⟩
    obtain ⟨a1, a2, a3⟩ := lA (by omega) hbi hLA _ (Nat.le_refl _)
    obtain ⟨b1, b2, b3⟩ := lB (by omega) hbi hLB _ (Nat.le_refl _)
    rw [← dAt_eq g.2 src true hn] at a1 a2 a3
    rw [← dAt_eq g.2 src false hn] at b1 b2 b3
    rw [List.take_length] at a2 a3 b2 b3
    have back : ∀ a ∈ g.2, a.2.1 = (v : Int) → a ∈ into g.2 v := fun a ha hav => List.mem_filter.2 ⟨ha, by simpa using hav⟩
    -- at the source no arc comes in from a reached node
    have hsrc : (v : Int) = src → dAt g.2 src true N v = 0 ∧ dAt g.2 src false N v = 0 := fun hs => by
      have hneg : ∀ lng, ∀ a ∈ into g.2 v, (dD g.2 src lng v).getD a.1.toNat 0 < 0 := fun lng a ha => by
        obtain ⟨_, _, h3, _⟩ := hin a ha
        exact dD_neg h src lng v (by omega) _ h3.2
      exact ⟨by rw [dAt_eq g.2 src true hn, dB_neg _ _ _ _ (hneg true), if_pos hs], by rw [dAt_eq g.2 src false hn, dB_neg _ _ _ _ (hneg false), if_pos hs]⟩
    have hsgn : dAt g.2 src true N v < 0 ↔ dAt g.2 src false N v < 0 := by
      by_cases hs : (v : Int) = src
      · rw [(hsrc hs).1, (hsrc hs).2]
      · rw [if_neg hs] at a1 a3 b1 b3
        constructor
        · intro hA
          rcases b3 with b3 | ⟨a, ha, b3, b4⟩
          · omega
          · obtain ⟨_, _, h3, h4⟩ := hin a ha
            have hs2 := (ih a.1.toNat h3.2).sign
            rw [hvl false a ha] at b3
            have h5 := a2 a ha (by rw [hvl true a ha]; omega)
            rw [hvl true a ha] at h5
            omega
        · intro hB
          rcases a3 with a3 | ⟨a, ha, a3, a4⟩
          · omega
          · obtain ⟨_, _, h3, h4⟩ := hin a ha
            have hs2 := (ih a.1.toNat h3.2).sign
            rw [hvl true a ha] at a3
            have h5 := b2 a ha (by rw [hvl false a ha]; omega)
            omega
    refine ⟨⟨by split at a1 <;> omega, by omega⟩, ⟨by split at b1 <;> omega, by omega⟩, hsgn, ?_, fun hs => (hsrc hs).1, fun a ha hav h0 => ?_, fun a ha hav h0 => ?_, fun hp => ?_⟩
    · by_cases hs : (v : Int) = src
      · rw [(hsrc hs).1, (hsrc hs).2]; exact Int.le_refl _
      · rw [if_neg hs] at a1 a3 b1 b3
        rcases a3 with a3 | ⟨a, ha, a3, a4⟩
        · have : dAt g.2 src false N v < 0 := hsgn.1 (by omega)
          omega
        · obtain ⟨_, _, h3, h4⟩ := hin a ha
          have hi := ih a.1.toNat h3.2
          rw [hvl true a ha] at a3 a4
          have hs2 := hi.sign
          have hg2 := hi.ge
          have h5 := b2 a ha (by rw [hvl false a ha]; omega)
          rw [hvl false a ha] at h5
          omega
    · have hm := back a ha hav
      have := a2 a hm (by rw [hvl true a hm]; exact h0)
      rw [hvl true a hm] at this; exact this
    · have hm := back a ha hav
      have := b2 a hm (by rw [hvl false a hm]; exact h0)
      rw [hvl false a hm] at this; exact this.2
    · by_cases hs : (v : Int) = src
      · exact .inl hs
      · rw [if_neg hs] at a3
        rcases a3 with a3 | ⟨a, ha, a3, a4⟩
        · omega
        · obtain ⟨h1, h2, _, _⟩ := hin a ha
          rw [hvl true a ha] at a3 a4
          exact .inr ⟨a, h1, h2, a3, a4⟩
theorem gsetB_nat {xs : List Bool} {i : Nat} (b : Bool) : gset xs (i : Int) b = xs.set i b := by unfold gset; rw [Int.toNat_natCast]
theorem loop_true {σ : Type} {f : σ → Option (σ ⊕ Bool)} (I : σ → Prop) (μ : σ → Nat) (s0 : σ) (h0 : I s0) (h : ∀ s, I s → (∃ s', f s = some (.inl s') ∧ I s' ∧ μ s' < μ s) ∨ f s = some (.inr true)) : loop f s0 = some true := by
  obtain ⟨o, h1, h2⟩ := loop_spec (f := f) I (fun o => o = true) μ (fun s hs => (h s hs).imp id fun h => ⟨true, h, rfl⟩) s0 h0
  rw [h1, h2]
theorem law_FnLongest (x : List Int) (h : InR (tS 0 (.int .u8)) x) : laws_FnLongest x = some true := by
  unfold laws_FnLongest
  rw [big_ok]
  simp only [Option.bind_some]
  by_cases hb : 1048576 < (x.length : Int)
  · rw [dt hb]; rfl
  rw [df hb, cond_false]
  have hb : CdOk x := by unfold CdOk; omega
  obtain ⟨g, ls, r, e1, ht, hg2, hg9, hls, hpts⟩ := drawGraph_ok hb
  rw [e1]
  simp only [Option.bind_some]
  obtain ⟨N, hN⟩ : ∃ N : Nat, g.1 = (N : Int) := ⟨g.1.toNat, by omega⟩
  have q0 : gin ls.length 0 = some () := gin_nat hls
  have q1 : gget (0, 0) ls 0 = some ls[0] := gget_nat hls
  rw [q0, q1]
  simp only [Option.bind_some]
  have hp0 : ptP g.1 ls[0] = true := by
    unfold ptsP at hpts
    simp only [Bool.and_eq_true, List.all_eq_true] at hpts
    exact hpts.2.2 _ (List.getElem_mem hls)
  unfold ptP at hp0
  simp only [decide_eq_true_eq] at hp0
  obtain ⟨s, hs⟩ : ∃ s : Nat, ls[0].1 = (s : Int) := ⟨ls[0].1.toNat, by omega⟩
  rw [hs] at hp0 ⊢
  have hsN : s < N := by omega
  rw [long_impl, short_impl]
  simp only [Option.bind_some]
  have eA : delP g (s : Int) true = dD g.2 s true N := by unfold delP; rw [if_pos ⟨ht, by omega, by omega⟩, hN]; rfl
  have eB : delP g (s : Int) false = dD g.2 s false N := by unfold delP; rw [if_pos ⟨ht, by omega, by omega⟩, hN]; rfl
  rw [eA, eB, dD_len, dD_len, df (show ¬ ((N : Int) ≠ g.1) by omega), cond_false, cond_false]
  have hdok := dok_all ht (s : Int) N N (Nat.le_refl _) (by omega)
  have gA : ∀ v : Nat, v < N → gget 0 (dD g.2 s true N) (v : Int) = some (dAt g.2 s true N v) := fun v hv => by
    rw [gget_getD (by omega) (by rw [dD_len]; omega)]; rfl
  have gB : ∀ v : Nat, v < N → gget 0 (dD g.2 s false N) (v : Int) = some (dAt g.2 s false N v) := fun v hv => by
    rw [gget_getD (by omega) (by rw [dD_len]; omega)]; rfl
  rw [gin_nat hsN, gA s hsN, (hdok s hsN).src0 rfl, hN, gmake_nat (by omega) (by omega)]
  simp only [Option.bind_some]
  rw [df (by omega), cond_false, List.length_replicate, gin_nat hsN]
  simp only [Option.bind_some]
  rw [gget_nat (by rw [List.length_replicate]; exact hsN)]
  simp only [Option.bind_some]
  rw [gsetB_nat]
  have harc : ∀ k (hk : k < g.2.length), ∃ u v : Nat, (g.2[k]).1 = (u : Int) ∧ (g.2[k]).2.1 = (v : Int) ∧ u < N ∧ v < N ∧ 0 ≤ (g.2[k]).2.2 ∧ (g.2[k]).2.2 ≤ 100 := fun k hk => by
    have ha := timP_arc ht (List.getElem_mem hk)
    exact ⟨(g.2[k]).1.toNat, (g.2[k]).2.1.toNat, by omega, by omega, by omega, by omega, ha.2.2⟩
  have hlen := (timP_len ht).2
  refine loop_true (fun st : Int × List Bool => (0 ≤ st.1 ∧ st.1 ≤ (g.2.length : Int)) ∧ st.2.length = N ∧ st.2[s]? = some true ∧ ∀ a ∈ g.2.take st.1.toNat, 0 ≤ dAt g.2 s true N a.1.toNat → dAt g.2 s true N a.2.1.toNat = dAt g.2 s true N a.1.toNat + a.2.2 → st.2[a.2.1.toNat]? = some true) (fun st => ((g.2.length : Int) - st.1).toNat) _
    ⟨⟨by simp, by simp⟩, by simp, by simp only []; rw [List.getElem?_set_self (by simpa using hsN)]; simp, fun a ha => by simp at ha⟩ (fun st hst => ?_)
  · obtain ⟨i, tg⟩ := st
    obtain ⟨⟨i0, i1⟩, hl, h1, h2⟩ := hst
    simp only at i0 i1 hl h1 h2
    try dsimp only
    obtain ⟨k, rfl⟩ : ∃ k : Nat, i = (k : Int) := ⟨i.toNat, by omega⟩
    simp only [Int.toNat_natCast] at h2
    by_cases hk : k < g.2.length
    · left
      obtain ⟨u, v, hu, hv, huN, hvN, d0, d1⟩ := harc k hk
      have hut : (g.2[k]).1.toNat = u := by omega
      have hvt : (g.2[k]).2.1.toNat = v := by omega
      have Du := hdok u huN
      have Dv := hdok v hvN
      have mem : ∀ t, t ∈ g.2.take (k + 1) ↔ t ∈ g.2.take k ∨ t = g.2[k] := fun t => by rw [take_succ' g.2 k hk, List.mem_append, List.mem_singleton]
      have cs : ((k : Int) + 1).toNat = k + 1 := by omega
      rw [dt (show (k : Int) < (g.2.length : Int) by omega), cond_true, gin_nat hk, gget_nat hk]
      simp only [Option.bind_some]
      rw [hu, hv, gin_nat huN, gA u huN]
      simp only [Option.bind_some]
      by_cases c1 : dAt g.2 s true N u < 0
      · rw [dt c1, cond_true, wrap_ok (by omega)]
        refine ⟨_, rfl, ⟨⟨by simp only; omega, by simp only; omega⟩, hl, h1, fun a ha ha0 hae => ?_⟩, by simp only; omega⟩
        simp only [cs] at ha
        rcases (mem a).1 ha with hm | rfl
        · exact h2 a hm ha0 hae
        · rw [hut] at ha0; omega
      rw [df c1, cond_false, gin_nat hvN, gA v hvN, gB v hvN, gB u huN]
      simp only [Option.bind_some]
      have bA := Du.bndA
      have bB := Du.bndB
      have sg := Du.sign
      have aA := Dv.arcA g.2[k] (List.getElem_mem hk) hv
      have aB := Dv.arcB g.2[k] (List.getElem_mem hk) hv
      rw [hut] at aA aB
      have aA := aA (by omega)
      have aB := aB (by omega)
      rw [wrap_ok (z := dAt g.2 s true N u + g.2[k].2.2) (by omega), df (by omega), cond_false, wrap_ok (z := dAt g.2 s false N u + g.2[k].2.2) (by omega), df (by omega), cond_false, hl, gin_nat hvN, gget_nat (show v < tg.length by omega)]
      simp only [Option.bind_some]
      rw [gsetB_nat, gsetB_nat, wrap_ok (z := (k : Int) + 1) (by omega)]
      cases hb2 : tg[v]'(by omega) with
      | true =>
        rw [cond_true]
        refine ⟨_, rfl, ⟨⟨by simp only; omega, by simp only; omega⟩, by simp only [List.length_set]; exact hl, ?_, fun a ha ha0 hae => ?_⟩, by simp only; omega⟩
        · simp only
          by_cases q : v = s
          · subst q; rw [List.getElem?_set_self (by omega)]
          · rw [List.getElem?_set_ne q]; exact h1
        · simp only [cs] at ha ⊢
          by_cases q : v = a.2.1.toNat
          · rw [← q, List.getElem?_set_self (by omega)]
          · rw [List.getElem?_set_ne q]
            rcases (mem a).1 ha with hm | rfl
            · exact h2 a hm ha0 hae
            · exact absurd hvt.symm q
      | false =>
        rw [cond_false]
        refine ⟨_, rfl, ⟨⟨by simp only; omega, by simp only; omega⟩, by simp only [List.length_set]; exact hl, ?_, fun a ha ha0 hae => ?_⟩, by simp only; omega⟩
        · simp only
          have q : v ≠ s := fun q => by subst q; rw [List.getElem?_eq_getElem (by omega), hb2] at h1; cases h1
          rw [List.getElem?_set_ne q]; exact h1
        · simp only [cs] at ha ⊢
          rcases (mem a).1 ha with hm | rfl
          · have h3 := h2 a hm ha0 hae
            have q : v ≠ a.2.1.toNat := fun q => by rw [← q, List.getElem?_eq_getElem (by omega), hb2] at h3; cases h3
            rw [List.getElem?_set_ne q]; exact h3
          · rw [hut, hvt] at hae
            rw [hvt, List.getElem?_set_self (by omega), dt hae]
    · right
      have hk : k = g.2.length := by omega
      subst hk
      rw [List.take_length] at h2
      rw [df (by omega), cond_false]
      refine Eq.trans (congrArg (Option.map Sum.inr) (a₂ := some true) ?_) rfl
      refine loop_upto N (fun k => (k : Int)) (fun v hv => ?_) ?_
      · have Dv := hdok v hv
        have sg := Dv.sign
        have hge := Dv.ge
        try dsimp only
        rw [dt (by omega), cond_true, gin_nat hv, gA v hv, gB v hv]
        simp only [Option.bind_some]
        have hx : (true ^^ (decide (dAt g.2 s true N v < 0) == decide (dAt g.2 s false N v < 0))) = false := by
          by_cases c : dAt g.2 s true N v < 0
          · rw [dt c, dt (sg.1 c)]; rfl
          · rw [df c, df (fun e => c (sg.2 e))]; rfl
        rw [hx, cond_false, df (show ¬ (dAt g.2 s true N v < dAt g.2 s false N v) by omega), cond_false, wrap_ok (z := (v : Int) + 1) (by omega)]
        by_cases c : 0 ≤ dAt g.2 s true N v
        · rw [dt c, cond_true, hl, gin_nat hv, gget_nat (show v < tg.length by omega)]
          simp only [Option.bind_some]
          have htt : tg[v]? = some true := by
            rcases Dv.att c with q | ⟨a, ha, q1, q2, q3⟩
            · have : v = s := by omega
              subst this; exact h1
            · have hvt : a.2.1.toNat = v := by omega
              have := h2 a ha q2 (by rw [hvt]; exact q3)
              rw [hvt] at this; exact this
          rw [List.getElem?_eq_getElem (by omega)] at htt
          rw [Option.some.inj htt]; rfl
        · rw [df c, cond_false]; rfl
      · try dsimp only
        rw [df (by omega), cond_false, tim_impl, pts_impl]
        simp only [Option.bind_some]
        rw [ht, hpts]; rfl
end Go.Pf

