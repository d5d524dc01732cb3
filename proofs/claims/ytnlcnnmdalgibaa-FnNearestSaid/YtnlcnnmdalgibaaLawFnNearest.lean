/-
  Own work. The law of the nearest free tile being nearest, plainly: it says true.
-/
import Derived.Test.YtnlcnnmdalgibaaDrw
import Derived.Test.YtnlcnnmdalgibaaLawNearestFree
namespace Go.Pf
open Go Go.Pu
set_option linter.unusedVariables false

theorem device_ok {b : List Int} {c : Cur} (hb : CdOk b) (hc : CurOk b c) : ∃ d c', spec_l26Device (b, c) = some (d, c') ∧ CurOk b c' := by
  unfold spec_l26Device
  dsimp only
  obtain ⟨x1, c1, e1, k1, _⟩ := below_ok hb hc 3
  obtain ⟨x2, c2, e2, k2, _⟩ := below_ok hb k1 3
  obtain ⟨x3, c3, e3, k3, _⟩ := below_ok hb k2 4
  obtain ⟨x4, c4, e4, k4⟩ := once_ok hb k3 2
  rw [e1]
  simp only [Option.bind_some]
  rw [e2]
  simp only [Option.bind_some]
  rw [e3]
  simp only [Option.bind_some]
  rw [e4]
  simp only [Option.bind_some]
  cases x4 with
  | true =>
    obtain ⟨x5, c5, e5, k5, _⟩ := below_ok hb k4 (wrap .i64 (wrap .i64 (3 + x1) - 2))
    rw [cond_true, e5]
    exact ⟨_, c5, rfl, k5⟩
  | false => exact ⟨_, c4, rfl, k4⟩
theorem anyDev_ok {b : List Int} {c : Cur} (hb : CdOk b) (hc : CurOk b c) : ∃ d c', spec_l26Any (b, c) = some (d, c') ∧ CurOk b c' := by
  unfold spec_l26Any
  dsimp only
  obtain ⟨d, c1, e1, k1⟩ := device_ok hb hc
  obtain ⟨x, c2, e2, k2, _⟩ := below_ok hb k1 16
  rw [e1]
  simp only [Option.bind_some]
  rw [e2]
  simp only [Option.bind_some]
  obtain ⟨y1, d1, f1, g1, _⟩ := pick_ok hb k2 (l := [(-1), 0, 2, 6, 7, 9223372036854775807]) (by simp)
  obtain ⟨y2, d2, f2, g2, _⟩ := pick_ok hb k2 (l := [(-1), 0, 5]) (by simp)
  obtain ⟨y3, d3, f3, g3, _⟩ := pick_ok hb k2 (l := [(-2), 0, 5, (-9223372036854775808)]) (by simp)
  rw [f1, f2, f3]
  cases decide (x = 0) with
  | true => exact ⟨_, _, rfl, g1⟩
  | false =>
  cases decide (x = 1) with
  | true => exact ⟨_, _, rfl, g1⟩
  | false =>
  cases decide (x = 2) with
  | true => exact ⟨_, _, rfl, g2⟩
  | false =>
  cases decide (x = 3) with
  | true => exact ⟨_, _, rfl, g3⟩
  | false => exact ⟨_, _, rfl, k2⟩
theorem drawNf_ok {b : List Int} (hb : CdOk b) : ∃ d k x y us, spec_DrawNearestFree b = some (d, (k, (x, (y, us)))) ∧ us.length ≤ 100 := by
  unfold spec_DrawNearestFree
  dsimp only
  obtain ⟨c0, e0, k0⟩ := new_ok hb
  obtain ⟨d, c1, e1, k1⟩ := anyDev_ok hb k0
  obtain ⟨k, c2, e2, k2, _⟩ := pick_ok hb k1 (l := [0, 1, 1, 1, 2, 3]) (by simp)
  obtain ⟨x, c3, e3, k3⟩ := place_ok hb k2 400
  obtain ⟨y, c4, e4, k4⟩ := place_ok hb k3 400
  obtain ⟨m, c5, e5, k5, _, hm⟩ := below_ok hb k4 8
  have hm := hm (by omega)
  rw [e0]
  simp only [Option.bind_some]
  rw [e1]
  simp only [Option.bind_some]
  rw [e2]
  simp only [Option.bind_some]
  rw [e3]
  simp only [Option.bind_some]
  rw [e4]
  simp only [Option.bind_some]
  rw [e5]
  simp only [Option.bind_some]
  have key := loop_spec (f := (fun (v8 : (Int × (Int × (Int × List Int)))) =>
    let v9 : Bool := decide (0 < v8.1)
    bif v9 then (
      (spec_l01Below ((b, (v8.2.1, v8.2.2.1)), 20)).bind fun v10 =>
      let v11 : List Int := [v10.1]
      (gapp 8 v8.2.2.2 v11).bind fun v12 =>
      let v13 : Int := wrap .i64 (v8.1 - 1)
      some (.inl (v13, (v10.2.1, (v10.2.2, v12))))) else
    Option.map Sum.inr (
      some (d, (k, (x, (y, v8.2.2.2))))))) (fun s => (0 ≤ s.1 ∧ s.1 ≤ 8) ∧ CurOk b (s.2.1, s.2.2.1) ∧ (s.2.2.2.length : Int) + s.1 ≤ 8) (fun o : (Int × (Int × (Int × Int))) × (Int × (Int × (Int × List Int))) => ∃ us, o = (d, (k, (x, (y, us)))) ∧ us.length ≤ 100) (fun s => s.1.toNat) (fun s hs => ?_) (m, (c5.1, (c5.2, []))) ⟨⟨by simp only; omega, by simp only; omega⟩, k5, by simp only [List.length_nil]; omega⟩
  · obtain ⟨o, h1, us, rfl, h2⟩ := key
    dsimp only at h1
    exact ⟨d, k, x, y, us, h1, h2⟩
  · obtain ⟨i, p, q, us⟩ := s
    obtain ⟨⟨i0, i1⟩, hc, hl⟩ := hs
    simp only at i0 i1 hc hl
    dsimp only
    by_cases h1 : 0 < i
    · left
      rw [dt h1, cond_true]
      obtain ⟨z, c6, e6, k6, _⟩ := below_ok hb hc 20
      rw [e6]
      simp only [Option.bind_some]
      rw [gapp_some (by simp only [List.length_singleton]; omega) (by simp only [List.length_singleton]; omega), wrap_ok (by omega)]
      refine ⟨_, rfl, ⟨⟨by simp only; omega, by simp only; omega⟩, k6, by simp only [List.length_append, List.length_singleton]; omega⟩, by simp only; omega⟩
    · right
      rw [df h1, cond_false]
      exact ⟨_, rfl, us, rfl, by omega⟩
def nfInv (d : Dev) (x y : Int) (us ts : List Int) (j : Nat) (s : Int × Int) : Prop :=
  (s = (-1, 0) ∧ ∀ t ∈ ts.take j, t ∈ us) ∨ (s.1 ∈ ts.take j ∧ s.1 ∉ us ∧ s.2 = dst d x y s.1 ∧ ∀ t ∈ ts.take j, t ∉ us → dst d x y s.1 ≤ dst d x y t)
theorem nfT_inv (d : Dev) (x y : Int) (us ts : List Int) (h0 : ∀ t ∈ ts, 0 ≤ t) : ∀ j, j ≤ ts.length → nfInv d x y us ts j (nfT d x y us ts j) := by
  intro j
  induction j with
  | zero => intro _; left; exact ⟨rfl, fun t ht => by simp at ht⟩
  | succ j ih =>
    intro hj
    have ih := ih (by omega)
    have hj' : j < ts.length := by omega
    have hg := h0 ts[j] (List.getElem_mem hj')
    rw [nfT_succ d x y us ts j hj']
    generalize nfT d x y us ts j = s at ih ⊢
    unfold nfS
    have mem : ∀ t, t ∈ ts.take (j + 1) ↔ t ∈ ts.take j ∨ t = ts[j] := fun t => by rw [take_succ' ts j hj', List.mem_append, List.mem_singleton]
    by_cases c1 : ts[j] ∈ us
    · rw [if_pos c1]
      rcases ih with ⟨e, h1⟩ | ⟨h1, h2, h3, h4⟩
      · left
        refine ⟨e, fun t ht => ?_⟩
        rcases (mem t).1 ht with h | rfl
        · exact h1 t h
        · exact c1
      · right
        refine ⟨(mem _).2 (.inl h1), h2, h3, fun t ht hu => ?_⟩
        rcases (mem t).1 ht with h | rfl
        · exact h4 t h hu
        · exact absurd c1 hu
    rw [if_neg c1]
    rcases ih with ⟨e, h1⟩ | ⟨h1, h2, h3, h4⟩
    · subst e
      rw [if_pos (by omega)]
      right
      refine ⟨(mem _).2 (.inr rfl), c1, rfl, fun t ht hu => ?_⟩
      rcases (mem t).1 ht with h | rfl
      · exact absurd (h1 t h) hu
      · exact Int.le_refl _
    · have hs0 : 0 ≤ s.1 := h0 _ (List.mem_of_mem_take h1)
      rw [if_neg (by omega)]
      by_cases c3 : dst d x y ts[j] < s.2
      · rw [if_pos c3]
        right
        refine ⟨(mem _).2 (.inr rfl), c1, rfl, fun t ht hu => ?_⟩
        rcases (mem t).1 ht with h | rfl
        · have := h4 t h hu
          simp only
          omega
        · exact Int.le_refl _
      · rw [if_neg c3]
        right
        refine ⟨(mem _).2 (.inl h1), h2, h3, fun t ht hu => ?_⟩
        rcases (mem t).1 ht with h | rfl
        · exact h4 t h hu
        · omega
theorem lhas_ok (xs : List Int) (x : Int) (h : xs.length ≤ 4611686018427387904) : laws_has (xs, x) = some (decide (x ∈ xs)) := has_impl xs x h
theorem tilesP_kind {d : Dev} {k t : Int} (h : t ∈ tilesP d k) : tkp d t = k := by
  unfold tilesP at h
  split at h
  · unfold tilesTo at h
    simpa using (List.mem_filter.1 h).2
  · cases h
theorem nf_sample : nfP (5, (5, (4, 2))) 0 0 0 [] = 0 := by decide +kernel
theorem law_FnNearest (x : List Int) (h : InR (tS 0 (.int .u8)) x) : laws_FnNearest x = some true := by
  unfold laws_FnNearest
  rw [big_ok]
  simp only [Option.bind_some]
  by_cases hb : 1048576 < (x.length : Int)
  · rw [dt hb]; rfl
  rw [df hb, cond_false]
  have hb : CdOk x := by unfold CdOk; omega
  obtain ⟨d, k, px, py, us, e1, hl⟩ := drawNf_ok hb
  rw [e1]
  simp only [Option.bind_some]
  rw [nf_spec d k px py us (by omega), nf_impl d k px py us (by omega)]
  simp only [Option.bind_some]
  have htl := tilesP_len d k
  have hinv := nfT_inv d px py us (tilesP d k) (fun t ht => (tilesP_mem ht).2.1) (tilesP d k).length (Nat.le_refl _)
  unfold nfInv at hinv
  rw [List.take_length] at hinv
  by_cases h1 : nfP d k px py us < 0
  · rw [dt h1, cond_true]
    have e2 : nfP d k px py us = -1 := by
      unfold nfP at h1 ⊢
      split at h1
      · rename_i hh
        rw [if_pos hh]
        rcases hinv with ⟨e, _⟩ | ⟨h2, _⟩
        · rw [e]
        · have := (tilesP_mem h2).2.1; omega
      · rename_i hh; rw [if_neg hh]
    rw [dt e2, cond_true]
    have e3 : impl_SampleDevice () = some (5, (5, (4, 2))) := rfl
    rw [e3]
    simp only [Option.bind_some]
    rw [nf_impl _ _ _ _ _ (by simp), nf_sample]
    rfl
  · rw [df h1, cond_false, cond_false]
    have hxy : (0 ≤ px ∧ px ≤ 600) ∧ (0 ≤ py ∧ py ≤ 600) := by
      unfold nfP at h1
      split at h1
      · rename_i hh; exact hh
      · omega
    have e2 : nfP d k px py us = (nfT d px py us (tilesP d k) (tilesP d k).length).1 := by unfold nfP; rw [if_pos hxy]
    rw [e2] at h1 ⊢
    generalize nfT d px py us (tilesP d k) (tilesP d k).length = s at h1 hinv ⊢
    rcases hinv with ⟨e, _⟩ | ⟨h2, h3, h4, h5⟩
    · rw [e] at h1; simp at h1
    have hm := tilesP_mem h2
    have hd := hm.1
    have hmul := mul_le36 hd.1 hd.2.1
    have hw := hd.1
    rw [lhas_ok us _ (by omega)]
    simp only [Option.bind_some]
    rw [df h3, cond_false, tk_impl d s.1 (by omega)]
    simp only [Option.bind_some]
    have ek : tk d s.1 = k := by unfold tk; rw [if_pos hm]; exact tilesP_kind h2
    rw [ek, df (by simp), cond_false]
    have far : ∀ t ∈ tilesP d k, (0 ≤ t ∧ t ≤ 36) ∧ (-600 ≤ 100 * (t % d.1) - px ∧ 100 * (t % d.1) - px ≤ 600) ∧ (-600 ≤ 100 * (t / d.1) - py ∧ 100 * (t / d.1) - py ≤ 600) ∧ (0 ≤ (100 * (t % d.1) - px) * (100 * (t % d.1) - px) ∧ (100 * (t % d.1) - px) * (100 * (t % d.1) - px) ≤ 360000) ∧ (0 ≤ (100 * (t / d.1) - py) * (100 * (t / d.1) - py) ∧ (100 * (t / d.1) - py) * (100 * (t / d.1) - py) ≤ 360000) := fun t ht => by
      have hmt := tilesP_mem ht
      obtain ⟨q1, q2, q3, q4⟩ := nf_xy hmt hxy.1 hxy.2
      exact ⟨by omega, by omega, by omega, q3, q4⟩
    have dd : ∀ (t : Int), (100 * (t % d.1) - px) * (100 * (t % d.1) - px) + (100 * (t / d.1) - py) * (100 * (t / d.1) - py) = dst d px py t := fun t => rfl
    obtain ⟨f1, f2, f3, f4, f5⟩ := far s.1 h2
    rw [grem_nn (a := s.1) (by omega) (by omega), gdiv_nn (a := s.1) (by omega) (by omega) (by omega)]
    simp only [Option.bind_some]
    rw [wrap_ok (z := 100 * (s.1 % d.1)) (by omega), wrap_ok (z := 100 * (s.1 % d.1) - px) (by omega), wrap_ok (z := 100 * (s.1 / d.1)) (by omega), wrap_ok (z := 100 * (s.1 / d.1) - py) (by omega), wrap_ok (z := (100 * (s.1 % d.1) - px) * (100 * (s.1 % d.1) - px)) (by omega), wrap_ok (z := (100 * (s.1 / d.1) - py) * (100 * (s.1 / d.1) - py)) (by omega), wrap_ok (z := (100 * (s.1 % d.1) - px) * (100 * (s.1 % d.1) - px) + (100 * (s.1 / d.1) - py) * (100 * (s.1 / d.1) - py)) (by omega), dd s.1]
    rw [tiles_spec]
    simp only [Option.bind_some]
    generalize hts : tilesP d k = ts at *
    refine loop_upto ts.length (fun j => (j : Int)) (fun j hj => ?_) ?_
    · have hmj : ts[j] ∈ ts := List.getElem_mem hj
      try dsimp only
      rw [dt (by omega), cond_true, gin_nat hj, gget_nat hj]
      simp only [Option.bind_some]
      rw [lhas_ok us _ (by omega)]
      simp only [Option.bind_some]
      by_cases c : ts[j] ∈ us
      · rw [dt c, Bool.not_true, cond_false, wrap_ok (by omega)]; rfl
      · rw [df c, Bool.not_false, cond_true]
        obtain ⟨f1, f2, f3, f4, f5⟩ := far ts[j] hmj
        rw [grem_nn (a := ts[j]) (by omega) (by omega), gdiv_nn (a := ts[j]) (by omega) (by omega) (by omega)]
        simp only [Option.bind_some]
        rw [wrap_ok (z := 100 * (ts[j] % d.1)) (by omega), wrap_ok (z := 100 * (ts[j] % d.1) - px) (by omega), wrap_ok (z := 100 * (ts[j] / d.1)) (by omega), wrap_ok (z := 100 * (ts[j] / d.1) - py) (by omega), wrap_ok (z := (100 * (ts[j] % d.1) - px) * (100 * (ts[j] % d.1) - px)) (by omega), wrap_ok (z := (100 * (ts[j] / d.1) - py) * (100 * (ts[j] / d.1) - py)) (by omega), wrap_ok (z := (100 * (ts[j] % d.1) - px) * (100 * (ts[j] % d.1) - px) + (100 * (ts[j] / d.1) - py) * (100 * (ts[j] / d.1) - py)) (by omega), dd ts[j]]
        have := h5 _ hmj c
        rw [df (by omega), cond_false, wrap_ok (by omega)]; rfl
    · try dsimp only
      rw [df (by omega), cond_false]; rfl
end Go.Pf

