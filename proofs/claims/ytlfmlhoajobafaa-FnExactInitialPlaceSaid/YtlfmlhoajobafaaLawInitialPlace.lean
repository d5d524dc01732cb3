/-
  Own work. The law, plainly: it says true.
-/
import Derived.Test.YtlfmlhoajobafaaAvg
import Derived.Test.YtlfmlhoajobafaaLawNearestFree
import Derived.Test.YtlfmlhoajobafaaPla
namespace Go.Pf
open Go Go.Pu
set_option linter.unusedVariables false

theorem loop_rel2 {σ τ ω : Type} {f : σ → Option (σ ⊕ ω)} {g : τ → Option (τ ⊕ ω)} (I : σ → τ → Prop) (Q : ω → Prop) (μ : σ → Nat) (h : ∀ s t, I s t → (∃ s' t', f s = some (.inl s') ∧ g t = some (.inl t') ∧ I s' t' ∧ μ s' < μ s) ∨ (∃ o, f s = some (.inr o) ∧ g t = some (.inr o) ∧ Q o)) :
    ∀ s t, I s t → ∃ o, loop f s = some o ∧ loop g t = some o ∧ Q o := by
  have key : ∀ n s t, μ s < n → I s t → ∃ o, loop f s = some o ∧ loop g t = some o ∧ Q o := by
    intro n
    induction n with
    | zero => intro s t hs; omega
    | succ n ih =>
      intro s t hs hi
      rcases h s t hi with ⟨s', t', h1, h2, h3, h4⟩ | ⟨o, h1, h2, h3⟩
      · obtain ⟨o, h5, h6, h7⟩ := ih s' t' (by omega) h3
        exact ⟨o, by rw [loop_eq, h1]; exact h5, by rw [loop_eq, h2]; exact h6, h7⟩
      · exact ⟨o, by rw [loop_eq, h1], by rw [loop_eq, h2], h3⟩
  exact fun s t hi => key _ s t (Nat.lt_succ_self _) hi
theorem bothR2 {α α' β : Type} {X Y : Option β} {Q : β → Prop} (h : ∃ o, X = some o ∧ Y = some o ∧ Q o) : ∃ o, Option.map (Sum.inr : β → α ⊕ β) X = some (.inr o) ∧ Option.map (Sum.inr : β → α' ⊕ β) Y = some (.inr o) ∧ Q o := by
  obtain ⟨o, h1, h2, h3⟩ := h
  exact ⟨o, by rw [h1]; rfl, by rw [h2]; rfl, h3⟩
theorem bndI {α β : Type} {X : Option α} {a : α} {k : α → Option β} (h : X = some a) : X.bind k = k a := by rw [h]; rfl

/-! ### Free tiles depend on the used ones alone -/
theorem nfS_congr {d : Dev} {x y : Int} {us vs : List Int} (h : ∀ t, 0 ≤ t → (t ∈ us ↔ t ∈ vs)) (s : Int × Int) {t : Int} (ht : 0 ≤ t) : nfS d x y us s t = nfS d x y vs s t := by
  unfold nfS
  by_cases q : t ∈ us
  · have q2 := (h t ht).1 q
    simp [q, q2]
  · have q2 : t ∉ vs := fun e => q ((h t ht).2 e)
    simp [q, q2]
theorem nfP_congr {d : Dev} {k x y : Int} {us vs : List Int} (h : ∀ t, 0 ≤ t → (t ∈ us ↔ t ∈ vs)) : nfP d k x y us = nfP d k x y vs := by
  have key : ∀ j, j ≤ (tilesP d k).length → nfT d x y us (tilesP d k) j = nfT d x y vs (tilesP d k) j := by
    intro j
    induction j with
    | zero => intro _; rfl
    | succ j ih =>
      intro hj
      rw [nfT_succ _ _ _ _ _ _ (by omega), nfT_succ _ _ _ _ _ _ (by omega), ih (by omega), nfS_congr h _ (tilesP_mem (List.getElem_mem (show j < (tilesP d k).length by omega))).2.1]
  unfold nfP
  rw [key _ (Nat.le_refl _)]

/-! ### Pads -/
def padN (bs : List Int) (k : Nat) : Nat := (bs.take k).countP fun b => decide (bt b = 0)
theorem padN_succ {bs : List Int} {k : Nat} (h : k < bs.length) : padN bs (k + 1) = padN bs k + (if bt (nsAt bs k) = 0 then 1 else 0) := by
  unfold padN
  rw [take_at h, List.countP_append]
  by_cases q : bt (nsAt bs k) = 0 <;> simp [q]
theorem padN_le (bs : List Int) (k : Nat) : padN bs k ≤ k := by
  unfold padN
  have h1 := List.countP_le_length (p := fun b => decide (bt b = 0)) (l := bs.take k)
  rw [List.length_take] at h1; omega
theorem padN_mono (bs : List Int) {j k : Nat} (h : j ≤ k) : padN bs j ≤ padN bs k := by
  unfold padN
  have : bs.take j = (bs.take k).take j := by rw [List.take_take]; congr 1; omega
  rw [this]
  exact List.Sublist.countP_le (List.take_sublist _ _)
theorem mem_set_neg {ps : List Int} {i : Nat} {v t : Int} (hi : i < ps.length) (hn : ps[i] < 0) (ht : 0 ≤ t) : t ∈ ps.set i v ↔ t ∈ ps ∨ t = v := by
  rw [List.mem_iff_getElem?, List.mem_iff_getElem?]
  constructor
  · rintro ⟨j, hj⟩
    by_cases q : j = i
    · subst q
      rw [List.getElem?_set_self hi] at hj
      exact Or.inr (Option.some.inj hj).symm
    · rw [List.getElem?_set_ne (by omega)] at hj
      exact Or.inl ⟨j, hj⟩
  · rintro (⟨j, hj⟩ | e)
    · by_cases q : j = i
      · subst q
        rw [List.getElem?_eq_getElem hi] at hj
        have := Option.some.inj hj
        omega
      · exact ⟨j, by rw [List.getElem?_set_ne (by omega)]; exact hj⟩
    · exact ⟨i, by rw [List.getElem?_set_self hi, e]⟩
theorem initial_ok (d : Dev) (bs : List Int) (cns : List Conn) (hl : bs.length ≤ 1048576) (hc : CnsOk cns) : ∃ o : List Int × Bool, spec_InitialPlace (d, (bs, cns)) = some o ∧ impl_InitialPlace (d, (bs, cns)) = some o ∧ o.1.length ≤ 64 := by
  unfold spec_InitialPlace impl_InitialPlace
  rw [devOk_spec, devOk_impl]
  simp only [Option.bind_some]
  by_cases hd : DOk d
  rotate_left
  · rw [df hd]; exact ⟨([], false), rfl, rfl, by simp⟩
  rw [dt hd, Bool.not_true, cond_false, cond_false, cns_spec, cns_impl]
  simp only [Option.bind_some]
  cases hcn : cnsP (bs.length : Int) cns with
  | false => exact ⟨([], false), rfl, rfl, by simp⟩
  | true =>
  obtain ⟨hn, _, _⟩ := cnsP_all hcn
  have hmm := mul_le36 hd.1 hd.2.1
  rw [Bool.not_true, cond_false, cond_false]
  refine loop_both (fun s : Int × Int => ∃ k : Nat, k ≤ bs.length ∧ s = ((padN bs k : Int), (k : Int))) _ (fun s => (bs.length - s.2).toNat) (fun s hs => ?_) (0, 0) ⟨0, by omega, rfl⟩
  obtain ⟨k, hk, rfl⟩ := hs
  have hpk := padN_le bs k
  try dsimp only
  by_cases hi : (k : Int) < (bs.length : Int)
  · have hkb : k < bs.length := by omega
    rw [dt hi, cond_true, cond_true, nsAt_get hkb]
    simp only [Option.bind_some]
    rw [bt_spec, bt_impl]
    simp only [Option.bind_some]
    by_cases hb : bt (nsAt bs k) < 0
    · right
      rw [dt hb]
      exact ⟨_, rfl, rfl, by simp⟩
    · left
      have hpadS := padN_succ hkb
      rw [df hb, cond_false, cond_false, wrap_ok (z := (k : Int) + 1) (by omega)]
      by_cases hz : bt (nsAt bs k) = 0
      · rw [if_pos hz] at hpadS
        rw [dt hz]
        have eb : spec_l07Bit true = some 1 := rfl
        rw [eb]
        simp only [Option.bind_some, cond_true]
        rw [wrap_ok (by omega)]
        exact ⟨_, rfl, rfl, ⟨k + 1, by omega, by rw [hpadS]; rfl⟩, by simp only; omega⟩
      · rw [if_neg hz] at hpadS
        rw [df hz]
        have eb : spec_l07Bit false = some 0 := rfl
        rw [eb]
        simp only [Option.bind_some, cond_false]
        rw [wrap_ok (by omega)]
        refine ⟨_, rfl, by rw [Int.add_zero], ⟨k + 1, by omega, by rw [hpadS, Nat.add_zero, Int.add_zero]; rfl⟩, by simp only; omega⟩
  right
  have hkn : k = bs.length := by omega
  subst hkn
  rw [df hi, cond_false, cond_false]
  refine bothR ?_
  rw [tiles_spec, tiles_impl]
  simp only [Option.bind_some]
  have hTl := tilesP_len d 0
  have hTm := fun t (h : t ∈ tilesP d 0) => tilesP_mem h
  generalize tilesP d 0 = T at *
  by_cases hcnt : (T.length : Int) < (padN bs bs.length : Int)
  · rw [dt hcnt]
    exact ⟨_, rfl, rfl, by simp⟩
  rw [df hcnt, cond_false, cond_false, gmake_nat (by omega) (by omega)]
  simp only [Option.bind_some]
  generalize hC : padN bs bs.length = C at *
  refine loop_rel2 (fun (s : Int × (Int × List Int)) (t : List Int × (Int × (Int × List Int))) => ∃ j : Nat, j ≤ bs.length ∧ s.1 = (padN bs j : Int) ∧ s.2.1 = (j : Int) ∧ s.2.2.length = j ∧ (∀ x ∈ s.2.2, x = -1 ∨ x ∈ T) ∧ t.2.1 = s.1 ∧ t.2.2.1 = s.2.1 ∧ t.2.2.2 = s.2.2 ++ List.replicate (bs.length - j) 0 ∧ t.1.length ≤ j ∧ ∀ x, 0 ≤ x → (x ∈ s.2.2 ↔ x ∈ t.1)) _ (fun s => (bs.length - s.2.1).toNat) (fun s t hI => ?_) (0, (0, [])) ([], (0, (0, List.replicate bs.length 0))) ⟨0, by omega, rfl, rfl, rfl, by simp, rfl, rfl, by simp, by simp, by simp⟩
  obtain ⟨pd, i, ps⟩ := s
  obtain ⟨us, pd2, i2, qs⟩ := t
  obtain ⟨j, hj, e1, e2, hpl, hpm, e3, e4, e5, hul, hmem⟩ := hI
  simp only at e1 e2 hpl hpm e3 e4 e5 hul hmem
  subst e3 e4 e5 e1 e2
  try dsimp only
  by_cases hjl : (j : Int) < (bs.length : Int)
  · left
    have hjb : j < bs.length := by omega
    have hpj := padN_le bs j
    have hpadS := padN_succ hjb
    have hmono := padN_mono bs (show j + 1 ≤ bs.length by omega)
    obtain ⟨m, hm⟩ : ∃ m, bs.length - j = m + 1 := ⟨bs.length - j - 1, by omega⟩
    have em : bs.length - (j + 1) = m := by omega
    have hql : (ps ++ List.replicate (bs.length - j) (0 : Int)).length = bs.length := by simp; omega
    have hset : ∀ v : Int, (ps ++ List.replicate (bs.length - j) (0 : Int)).set j v = ps ++ v :: List.replicate m 0 := by
      intro v
      rw [List.set_append_right _ _ (by omega), hpl, Nat.sub_self, hm, List.replicate_succ, List.set_cons_zero]
    have hvl : ∀ v : Int, (ps ++ v :: List.replicate m 0).length = bs.length := by intro v; simp; omega
    have hset2 : ∀ v w : Int, (ps ++ v :: List.replicate m (0 : Int)).set j w = ps ++ w :: List.replicate m 0 := by
      intro v w
      rw [List.set_append_right _ _ (by omega), hpl, Nat.sub_self, List.set_cons_zero]
    have hget2 : ∀ v : Int, gget 0 (ps ++ v :: List.replicate m (0 : Int)) (j : Int) = some v := by
      intro v
      rw [gget_nat (by rw [hvl]; exact hjb), List.getElem_append_right (by omega)]
      simp [hpl]
    rw [dt hjl, cond_true, cond_true, nsAt_get hjb]
    simp only [Option.bind_some]
    rw [bt_spec, bt_impl, gin_nat (show j < (ps ++ List.replicate (bs.length - j) (0 : Int)).length by rw [hql]; exact hjb), gget_nat (show j < (ps ++ List.replicate (bs.length - j) (0 : Int)).length by rw [hql]; exact hjb)]
    simp only [Option.bind_some]
    rw [gset_nat, hset, wrap_ok (z := (j : Int) + 1) (by omega)]
    by_cases hz : bt (nsAt bs j) = 0
    · rw [if_pos hz] at hpadS
      rw [hC] at hmono
      have hpc : padN bs j + 1 ≤ C := by omega
      have hprod : (padN bs j : Int) * (T.length : Int) < (T.length : Int) * (C : Int) := by
        have h1 : ((padN bs j : Int) + 1) * (T.length : Int) ≤ (C : Int) * (T.length : Int) := Int.mul_le_mul_of_nonneg_right (by omega) (by omega)
        rw [Int.add_mul, Int.one_mul] at h1
        rw [Int.mul_comm (T.length : Int)]
        have : 0 < (T.length : Int) := by omega
        omega
      have hprod0 : 0 ≤ (padN bs j : Int) * (T.length : Int) := Int.mul_nonneg (by omega) (by omega)
      have hprod1 : (padN bs j : Int) * (T.length : Int) ≤ 64 * 36 := Int.mul_le_mul (by omega) (by omega) (by omega) (by omega)
      have hq0 : 0 ≤ (padN bs j : Int) * (T.length : Int) / (C : Int) := Int.ediv_nonneg hprod0 (by omega)
      have hq1 : (padN bs j : Int) * (T.length : Int) / (C : Int) < (T.length : Int) := Int.ediv_lt_of_lt_mul (by omega) hprod
      obtain ⟨u, hu⟩ : ∃ u : Nat, (padN bs j : Int) * (T.length : Int) / (C : Int) = (u : Int) := ⟨((padN bs j : Int) * (T.length : Int) / (C : Int)).toNat, by omega⟩
      have hul2 : u < T.length := by omega
      have htu := hTm _ (List.getElem_mem hul2)
      have htuT := List.getElem_mem hul2
      rw [dt hz, cond_true, cond_true, wrap_ok (z := (padN bs j : Int) * (T.length : Int)) (by omega), gdiv_nn hprod0 (by omega) (by omega)]
      simp only [Option.bind_some]
      rw [hu, gin_nat hul2, gget_nat hul2]
      simp only [Option.bind_some]
      generalize T[u] = w at *
      rw [gapp_ok (by simp; omega), gin_nat (show j < (ps ++ -1 :: List.replicate m (0 : Int)).length by rw [hvl]; exact hjb), hget2]
      simp only [Option.bind_some]
      rw [gset_nat, hset2, gin_nat (show j < (ps ++ w :: List.replicate m (0 : Int)).length by rw [hvl]; exact hjb), hget2]
      simp only [Option.bind_some]
      rw [gapp_ok (by simp; omega), wrap_ok (z := (padN bs j : Int) + 1) (by omega)]
      simp only [Option.bind_some]
      refine ⟨_, _, rfl, rfl, ⟨j + 1, by omega, by simp only; omega, rfl, by simp; omega, fun x hx => ?_, rfl, rfl, by simp only; rw [em]; simp, by simp; omega, fun x hx => ?_⟩, by simp only; omega⟩
      · rcases List.mem_append.1 hx with q | q
        · exact hpm x q
        · rw [List.mem_singleton.1 q]; exact Or.inr htuT
      · simp only
        rw [List.mem_append, List.mem_append, hmem x hx]
    · rw [if_neg hz] at hpadS
      rw [df hz, cond_false, cond_false, gapp_ok (by simp; omega)]
      simp only [Option.bind_some]
      refine ⟨_, _, rfl, rfl, ⟨j + 1, by omega, by simp only; omega, rfl, by simp; omega, fun x hx => ?_, rfl, rfl, by simp only; rw [em]; simp, by simp only; omega, fun x hx => ?_⟩, by simp only; omega⟩
      · rcases List.mem_append.1 hx with q | q
        · exact hpm x q
        · exact Or.inl (List.mem_singleton.1 q)
      · simp only
        rw [List.mem_append, hmem x hx, List.mem_singleton]
        constructor
        · rintro (q | q)
          · exact q
          · omega
        · exact Or.inl
  right
  have hjn : j = bs.length := by omega
  subst hjn
  rw [df hjl, cond_false, cond_false]
  refine bothR2 ?_
  have erep : ps ++ List.replicate (bs.length - bs.length) (0 : Int) = ps := by simp
  rw [erep]
  have hps : PsR ps := by
    intro p hp
    rcases hpm p hp with q | q
    · omega
    · have := (hTm p q).2.2; omega
  obtain ⟨A, ⟨ha1, ha2⟩, ha3, ha4⟩ := avg_ok d ps cns 8 hps (by omega) hc
  have hAl : A.length = bs.length := by
    rw [← hpl]
    refine ha2 hd (by rw [hpl]; exact hcn) (by omega) (List.all_eq_true.2 (fun k hk => ?_))
    have hk := List.mem_range.1 hk
    have hm2 : nsAt ps k ∈ ps := by rw [← ns_at hk]; exact List.getElem_mem hk
    refine decide_eq_true ?_
    rcases hpm _ hm2 with q | q
    · exact Or.inl q
    · right
      have := hTm _ q
      unfold tk; rw [if_pos this]; exact tkp_ge d _
  rw [bndI ha3, bndI ha4]
  try dsimp only
  clear hpm hps ha1 ha2 ha3 ha4
  refine loop_rel2 (fun (s : Int × List Int) (t : Int × (List Int × List Int)) => (0 ≤ s.1 ∧ t.1 = s.1 ∧ t.2.1 = s.2) ∧ s.2.length = bs.length ∧ (t.2.2.length : Int) ≤ bs.length + s.1 ∧ ∀ x, 0 ≤ x → (x ∈ s.2 ↔ x ∈ t.2.2)) _ (fun s => (bs.length - s.1).toNat) (fun s t hI => ?_) (0, ps) (0, (ps, us)) ⟨⟨by simp, rfl, rfl⟩, hpl, by simp only; omega, hmem⟩
  clear hpl hmem hul
  obtain ⟨i, ps⟩ := s
  obtain ⟨i2, qs, us⟩ := t
  obtain ⟨⟨i0, e1, e2⟩, hpl, hul, hmem⟩ := hI
  simp only at i0 e1 e2 hpl hul hmem
  subst e1 e2
  try dsimp only
  by_cases hil : i2 < (bs.length : Int)
  rotate_left
  · right
    rw [df hil, cond_false, cond_false]
    exact ⟨_, rfl, rfl, by simp only; omega⟩
  obtain ⟨m, rfl⟩ : ∃ m : Nat, i2 = (m : Int) := ⟨i2.toNat, by omega⟩
  have hm : m < bs.length := by omega
  have hmp : m < qs.length := by omega
  have g1 : gin qs.length (m : Int) = some () := gin_nat hmp
  have g2 : gget 0 qs (m : Int) = some qs[m] := gget_nat hmp
  have g3 : gget 0 bs (m : Int) = some (nsAt bs m) := nsAt_get hm
  have g4 : gin A.length (m : Int) = some () := gin_nat (by omega)
  have g5 : gget ((0, 0) : Int × Int) A (m : Int) = some (A[m]'(by omega)) := gget_nat (by omega)
  rw [dt hil, cond_true, cond_true, bndI g1, bndI g2, bndI g3, bndI g3, bndI g1, bndI g2, wrap_ok (z := (m : Int) + 1) (by omega)]
  by_cases hpos : 0 ≤ qs[m]
  · left
    rw [dt hpos, cond_true, cond_true]
    exact ⟨_, _, rfl, rfl, ⟨⟨by simp only; omega, rfl, rfl⟩, hpl, by simp only; omega, hmem⟩, by simp only; omega⟩
  have e1 := bt_spec (nsAt bs m)
  have e2 := bt_impl (nsAt bs m)
  rw [df hpos, cond_false, cond_false, bndI g4, bndI g5, bndI g4, bndI g5, bndI g4, bndI g5, bndI g4, bndI g5, bndI e1, bndI e2]
  generalize A[m]'(by omega) = av at *
  have e3 := nf_spec d (bt (nsAt bs m)) av.1 av.2 qs (by omega)
  have e4 := nf_impl d (bt (nsAt bs m)) av.1 av.2 us (by omega)
  rw [← nfP_congr hmem] at e4
  rw [bndI e3, bndI e4]
  generalize nfP d (bt (nsAt bs m)) av.1 av.2 qs = v at *
  by_cases hv : v < 0
  · right
    rw [dt hv]
    exact ⟨_, rfl, rfl, by simp⟩
  left
  have g6 : gapp 8 us [v] = some (us ++ [v]) := gapp_ok (by simp; omega)
  rw [df hv, cond_false, cond_false, bndI g1, bndI g2, bndI g1, bndI g2, gset_nat, bndI g6]
  refine ⟨_, _, rfl, rfl, ⟨⟨by simp only; omega, rfl, rfl⟩, by simp only [List.length_set]; exact hpl, by simp only [List.length_append, List.length_cons, List.length_nil]; omega, fun x hx => ?_⟩, by simp only; omega⟩
  simp only
  rw [mem_set_neg hmp (by omega) hx, List.mem_append, List.mem_singleton, hmem x hx]
theorem law_FnExactInitialPlace (x : ((Int × (Int × (Int × Int))) × (List Int × List (Int × ((Int × Int) × List (Int × Int)))))) (h : InR (tP (tP tI (tP tI (tP tI tI))) (tP (tS 0 tI) (tS 0 (tP tI (tP (tP tI tI) (tS 0 (tP tI tI))))))) x) : laws_FnExactInitialPlace x = some true := by
  obtain ⟨d, bs, cs⟩ := x
  obtain ⟨_, _, ⟨hc, hcs⟩⟩ := h
  unfold laws_FnExactInitialPlace laws_toDevice
  simp only
  by_cases h1 : 1048576 < (bs.length : Int)
  · rw [dt h1]; rfl
  rw [df h1, cond_false]
  rcases szCnsB_ok cs (Nat.le_trans hc (by decide)) (fun c hm => Nat.le_trans (hcs c hm).2.2.1 (by decide)) with e | ⟨hb, z, z0, z1, e⟩
  · rw [e]; rfl
  have hok := hb.ok
  rw [e]
  simp only [Option.bind_some]
  rw [df (by omega), cond_false]
  obtain ⟨q, hq, hq0⟩ := markCns_ok cs (1 + (bs.length : Int)) (by omega) (by omega) hb
  obtain ⟨⟨o, f⟩, hs, hi, hl⟩ := initial_ok d bs cs (by omega) hok
  simp only at hl
  have hl2 : o.length ≤ 1048576 := by omega
  simp only [toIntS_ok bs (by omega), toConnS_ok cs hok, Option.bind_some, hs, hi, cond_false, beq_self_eq_true, Bool.true_xor, eqIntS_ok bs bs (by omega), eqIntS_ok o o (by omega), eqConnS_refl cs hok, decide_true, Bool.not_true]
  rw [markIntS_ok bs 1 (by omega) (by omega) (by omega)]
  simp only [Option.bind_some, hq, df (show ¬ (q.1 < 0) by omega), cond_false]
  rw [markIntS_ok o 1 (by omega) (by omega) hl2]
  simp only [Option.bind_some, heldIntS_ok 1 o.length (by omega) (by omega) hl2, df (show ¬ (1 + (o.length : Int) < 0) by omega), cond_false, ne_eq, not_true_eq_false, decide_false]
end Go.Pf
