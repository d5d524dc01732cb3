/-
  Own work. Separation: what is reached without a set of wires, plainly.
-/
import Derived.Test.YtnomgmmgonmhlaaDsd
namespace Go.Pf
open Go Go.Pu
set_option linter.unusedVariables false

/-! ### Marks -/
def bAt (R : List Bool) (v : Nat) : Bool := R.getD v false
theorem bAt_get {R : List Bool} {v : Nat} (h : v < R.length) : gget false R (v : Int) = some (bAt R v) := by
  rw [gget_nat h]; unfold bAt
  rw [List.getD, List.getElem?_eq_getElem h]; rfl
theorem bAt_set {R : List Bool} {k : Nat} (x : Bool) (j : Nat) (h : k < R.length) : bAt (R.set k x) j = if j = k then x else bAt R j := by
  unfold bAt
  rw [List.getD_eq_getElem?_getD, List.getD_eq_getElem?_getD]
  by_cases e : j = k
  · rw [if_pos e, e, List.getElem?_set_self h]; rfl
  · rw [if_neg e, List.getElem?_set_ne (by omega)]
def nF : List Bool → Nat
  | [] => 0
  | b :: r => (bif b then 0 else 1) + nF r
theorem nF_set : ∀ (R : List Bool) (k : Nat), k < R.length → bAt R k = false → nF (R.set k true) + 1 = nF R
  | [], k, h, _ => by simp at h
  | b :: r, 0, _, e => by
    have : b = false := e
    subst this
    show nF (true :: r) + 1 = nF (false :: r)
    simp [nF]; omega
  | b :: r, k + 1, h, e => by
    have ih := nF_set r k (by simp only [List.length_cons] at h; omega) e
    show (bif b then 0 else 1) + nF (r.set k true) + 1 = (bif b then 0 else 1) + nF r
    omega
theorem nF_le : ∀ R : List Bool, nF R ≤ R.length
  | [] => by simp [nF]
  | b :: r => by
    have := nF_le r
    show (bif b then 0 else 1) + nF r ≤ r.length + 1
    cases b <;> simp <;> omega
theorem seenA_at {N : Nat} {xs : List Int} {v : Nat} (h : v < N) : bAt (seenA N xs) v = decide ((v : Int) ∈ xs) := by
  have h1 := seenA_get N xs v h
  rw [bAt_get (by rw [seenA_len]; exact h)] at h1
  exact Option.some.inj h1

/-! ### What is reached -/
inductive Rch (N : Nat) (G : List (List Int)) (cut : List Int) (src : Nat) : Nat → Prop
  | base : Rch N G cut src src
  | step (u v : Nat) : Rch N G cut src u → u < N → v < N → (u : Int) ∈ gAt G v → (v : Int) ∉ cut → Rch N G cut src v
theorem reach_spec {N : Nat} {G : List (List Int)} {cut : List Int} {src : Nat} (hG : GrOk N G) (hs : src < N) : ∃ R, spec_l35Reach (G, ((src : Int), seenA N cut)) = some R ∧ R.length = N ∧ ∀ v, v < N → (bAt R v = true ↔ Rch N G cut src v) := by
  have hN := hG.2.1
  have hGl := hG.1
  unfold spec_l35Reach
  try dsimp only
  rw [hGl, gmake_nat (by omega) (by omega)]
  simp only [Option.bind_some]
  rw [gin_nat (by simpa using hs), gget_nat (by simpa using hs)]
  simp only [Option.bind_some]
  rw [gset_nat]
  have hrep : ∀ v, v < N → bAt (List.replicate N false) v = false := by
    intro v hv
    unfold bAt
    rw [List.getD, List.getElem?_replicate, if_pos hv]; rfl
  have h0 : ∀ v, v < N → bAt ((List.replicate N false).set src true) v = true → Rch N G cut src v := by
    intro v hv e
    rw [bAt_set _ _ (by simpa using hs)] at e
    by_cases q : v = src
    · rw [q]; exact Rch.base
    · rw [if_neg q, hrep v hv] at e; simp at e
  have h1 : bAt ((List.replicate N false).set src true) src = true := by rw [bAt_set _ _ (by simpa using hs), if_pos rfl]
  have fin : ∀ R : List Bool, (∀ v, v < N → bAt R v = true → Rch N G cut src v) → bAt R src = true → (∀ u v : Nat, u < N → v < N → (u : Int) ∈ gAt G v → bAt R u = true → (v : Int) ∉ cut → bAt R v = true) → ∀ v, v < N → (bAt R v = true ↔ Rch N G cut src v) := by
    intro R r1 r2 r3 v hv
    refine ⟨r1 v hv, fun h => ?_⟩
    induction h with
    | base => exact r2
    | step u v hu huN hvN hm hc ih => exact r3 u v huN hvN hm (ih huN) hc
  refine loop_spec (fun s : Bool × List Bool => s.2.length = N ∧ (∀ v, v < N → bAt s.2 v = true → Rch N G cut src v) ∧ bAt s.2 src = true ∧ (s.1 = false → ∀ u v : Nat, u < N → v < N → (u : Int) ∈ gAt G v → bAt s.2 u = true → (v : Int) ∉ cut → bAt s.2 v = true)) _ (fun s => 2 * nF s.2 + (if s.1 = true then 1 else 0)) (fun s hI => ?_) (true, (List.replicate N false).set src true) ⟨by simp, h0, h1, fun e => by simp at e⟩
  clear h0 h1
  obtain ⟨fl, D⟩ := s
  obtain ⟨hDl, hD, hsrc, hcl⟩ := hI
  simp only at hDl hD hsrc hcl
  try dsimp only
  cases fl with
  | false =>
    right
    exact ⟨D, rfl, hDl, fin D hD hsrc (hcl rfl)⟩
  | true =>
    left
    rw [cond_true]
    clear hcl
    refine stepE (A := fun s' : Bool × List Bool => (s'.2.length = N ∧ (∀ v, v < N → bAt s'.2 v = true → Rch N G cut src v) ∧ bAt s'.2 src = true ∧ (s'.1 = false → ∀ u v : Nat, u < N → v < N → (u : Int) ∈ gAt G v → bAt s'.2 u = true → (v : Int) ∉ cut → bAt s'.2 v = true)) ∧ 2 * nF s'.2 + (if s'.1 = true then 1 else 0) < 2 * nF D + (if true = true then 1 else 0)) ?_
    refine loop_spec (fun s : Bool × (Int × List Bool) => (0 ≤ s.2.1 ∧ s.2.1 ≤ (N : Int)) ∧ s.2.2.length = N ∧ (∀ v, v < N → bAt s.2.2 v = true → Rch N G cut src v) ∧ bAt s.2.2 src = true ∧ (s.1 = true → nF s.2.2 < nF D) ∧ (s.1 = false → s.2.2 = D ∧ ∀ u v : Nat, u < N → (v : Int) < s.2.1 → (u : Int) ∈ gAt G v → bAt D u = true → (v : Int) ∉ cut → bAt D v = true)) _ (fun s => (N - s.2.1).toNat) (fun s hI => ?_) (false, (0, D)) ⟨⟨by simp, by simp⟩, hDl, hD, hsrc, fun e => by simp at e, fun _ => ⟨rfl, fun u v hu hv => by simp only at hv; omega⟩⟩
    obtain ⟨fl, i, E⟩ := s
    obtain ⟨⟨i0, i1⟩, hEl, hE, hEs, ht, hf⟩ := hI
    simp only at i0 i1 hEl hE hEs ht hf
    try dsimp only
    by_cases hi : i < (N : Int)
    rotate_left
    · right
      rw [df hi, cond_false]
      refine ⟨_, rfl, _, rfl, ⟨hEl, hE, hEs, fun e => ?_⟩, ?_⟩
      · obtain ⟨e1, e2⟩ := hf e
        intro u v hu hv hm g0 g1
        simp only at *
        rw [e1] at g0 ⊢
        exact e2 u v hu (by omega) hm g0 g1
      · cases fl with
        | true => have := ht rfl; simp only; omega
        | false => have := (hf rfl).1; simp only; rw [this]; simp
    left
    obtain ⟨v, rfl⟩ : ∃ v : Nat, i = (v : Int) := ⟨i.toNat, by omega⟩
    have hv : v < N := by omega
    have hgv := hG.2.2 v hv
    rw [dt hi, cond_true]
    refine stepE (A := fun s' : Bool × (Int × List Bool) => ((0 ≤ s'.2.1 ∧ s'.2.1 ≤ (N : Int)) ∧ s'.2.2.length = N ∧ (∀ v, v < N → bAt s'.2.2 v = true → Rch N G cut src v) ∧ bAt s'.2.2 src = true ∧ (s'.1 = true → nF s'.2.2 < nF D) ∧ (s'.1 = false → s'.2.2 = D ∧ ∀ u v : Nat, u < N → (v : Int) < s'.2.1 → (u : Int) ∈ gAt G v → bAt D u = true → (v : Int) ∉ cut → bAt D v = true)) ∧ (N - s'.2.1).toNat < (N - (v : Int)).toNat) ?_
    refine joinE (fun a : Bool × List Bool => a.2.length = N ∧ (∀ v, v < N → bAt a.2 v = true → Rch N G cut src v) ∧ bAt a.2 src = true ∧ (a.1 = true → nF a.2 < nF D) ∧ (a.1 = false → a.2 = D ∧ ∀ u w : Nat, u < N → (w : Int) < (v : Int) + 1 → (u : Int) ∈ gAt G w → bAt D u = true → (w : Int) ∉ cut → bAt D w = true)) ?_ ?_
    rotate_left
    · rintro ⟨fl2, F⟩ ⟨a1, a2, a3, a4, a5⟩
      try dsimp only
      rw [wrap_ok (by omega)]
      exact ⟨_, rfl, _, rfl, ⟨⟨by simp only; omega, by simp only; omega⟩, a1, a2, a3, a4, a5⟩, by simp only; omega⟩
    refine loop_spec (fun s : Bool × (Int × List Bool) => (0 ≤ s.2.1 ∧ s.2.1 ≤ ((gAt G v).length : Int)) ∧ s.2.2.length = N ∧ (∀ v, v < N → bAt s.2.2 v = true → Rch N G cut src v) ∧ bAt s.2.2 src = true ∧ (s.1 = true → nF s.2.2 < nF D) ∧ (s.1 = false → s.2.2 = D ∧ (∀ u w : Nat, u < N → (w : Int) < (v : Int) → (u : Int) ∈ gAt G w → bAt D u = true → (w : Int) ∉ cut → bAt D w = true) ∧ ∀ j : Nat, (j : Int) < s.2.1 → bAt D (nsAt (gAt G v) j).toNat = true → (v : Int) ∉ cut → bAt D v = true)) _ (fun s => ((gAt G v).length - s.2.1).toNat) (fun s hI => ?_) (fl, (0, E)) ⟨⟨by simp, by simp⟩, hEl, hE, hEs, ht, fun e => ⟨(hf e).1, (hf e).2, fun j hj => by simp only at hj; omega⟩⟩
    clear ht hf hE hEs hEl
    clear E fl
    obtain ⟨fl, j, E⟩ := s
    obtain ⟨⟨j0, j1⟩, hEl, hE, hEs, ht, hf⟩ := hI
    simp only at j0 j1 hEl hE hEs ht hf
    try dsimp only
    rw [gAt_get (by omega)]
    simp only [Option.bind_some]
    have stop : (fl = false → ∀ u : Nat, u < N → (u : Int) ∈ gAt G v → bAt D u = true → (v : Int) ∉ cut → bAt D v = true) → (fl = false → E = D ∧ ∀ u w : Nat, u < N → (w : Int) < (v : Int) + 1 → (u : Int) ∈ gAt G w → bAt D u = true → (w : Int) ∉ cut → bAt D w = true) := by
      intro hq e
      obtain ⟨e1, e2, e3⟩ := hf e
      refine ⟨e1, fun u w hu hw hm g0 g1 => ?_⟩
      by_cases q : w = v
      · subst q; exact hq e u hu hm g0 g1
      · exact e2 u w hu (by omega) hm g0 g1
    by_cases hj : j < ((gAt G v).length : Int)
    rotate_left
    · right
      rw [df hj, cond_false]
      refine ⟨_, rfl, _, rfl, hEl, hE, hEs, ht, stop (fun e u hu hm g0 g1 => ?_)⟩
      obtain ⟨k, hk, ek⟩ := nsAt_mem hm
      have := (hf e).2.2 k (by omega)
      rw [ek, Int.toNat_natCast] at this
      exact this g0 g1
    obtain ⟨n, rfl⟩ : ∃ n : Nat, j = (n : Int) := ⟨j.toNat, by omega⟩
    have hn : n < (gAt G v).length := by omega
    have hmem : nsAt (gAt G v) n ∈ gAt G v := by rw [← ns_at hn]; exact List.getElem_mem hn
    have hun := hgv.2 _ hmem
    obtain ⟨u, hu⟩ : ∃ u : Nat, nsAt (gAt G v) n = (u : Int) := ⟨(nsAt (gAt G v) n).toNat, by omega⟩
    rw [hu] at hmem
    have huN : u < N := by omega
    rw [dt hj, cond_true, gin_nat (show v < E.length by omega), bAt_get (show v < E.length by omega)]
    simp only [Option.bind_some]
    cases hbv : bAt E v with
    | true =>
      right
      rw [Bool.not_true, cond_false]
      refine ⟨_, rfl, _, rfl, hEl, hE, hEs, ht, stop (fun e u hu hm g0 g1 => ?_)⟩
      rw [← (hf e).1]; exact hbv
    | false =>
      rw [Bool.not_false, cond_true, seenA_get _ _ _ hv]
      simp only [Option.bind_some]
      by_cases hc : (v : Int) ∈ cut
      · right
        rw [dt hc, Bool.not_true, cond_false]
        exact ⟨_, rfl, _, rfl, hEl, hE, hEs, ht, stop (fun e u hu hm g0 g1 => absurd hc g1)⟩
      · left
        rw [df hc, Bool.not_false, cond_true, nsAt_get hn]
        simp only [Option.bind_some]
        rw [hu, gin_nat (show u < E.length by omega), bAt_get (show u < E.length by omega), wrap_ok (z := (n : Int) + 1) (by omega)]
        simp only [Option.bind_some]
        cases hbu : bAt E u with
        | true =>
          rw [cond_true, gset_nat]
          have hset := fun w => bAt_set (R := E) (k := v) true w (by omega)
          have hnf := nF_set E v (by omega) hbv
          refine ⟨_, rfl, ⟨⟨by simp only; omega, by simp only; omega⟩, by simp only [List.length_set]; exact hEl, fun w hw hb => ?_, ?_, fun _ => ?_, fun e => by simp at e⟩, by simp only; omega⟩
          · simp only at hb
            rw [hset] at hb
            by_cases q : w = v
            · subst q; exact Rch.step u w (hE u huN hbu) huN hw hmem hc
            · rw [if_neg q] at hb; exact hE w hw hb
          · simp only
            rw [hset]
            split
            · rfl
            · exact hEs
          · simp only
            cases fl with
            | true => have := ht rfl; omega
            | false => have := (hf rfl).1; rw [this] at hnf ⊢; omega
        | false =>
          rw [cond_false]
          refine ⟨_, rfl, ⟨⟨by simp only; omega, by simp only; omega⟩, hEl, hE, hEs, ht, fun e => ?_⟩, by simp only; omega⟩
          obtain ⟨e1, e2, e3⟩ := hf e
          refine ⟨e1, e2, fun j hj g0 g1 => ?_⟩
          simp only at hj
          by_cases q : j = n
          · subst q
            rw [hu, Int.toNat_natCast, ← e1, hbu] at g0
            simp at g0
          · exact e3 j (by omega) g0 g1
/-! ### The two sides -/
theorem outPin_node {d : Dev} {t k : Int} (h : 0 ≤ outPinP d t k) : DOk d ∧ outPinP d t k < nodesN d ∧ nPin d (outPinP d t k) < 7 := by
  unfold outPinP at h
  split at h
  rotate_left
  · omega
  rename_i q
  have ho := outP_le (tk d t)
  obtain ⟨hd, t0, t1, _, q0, q1⟩ := tk_in (d := d) (t := t) (ho.2.2 (by omega))
  have hp := per_le hd
  have hm := mul_le36 hd.1 hd.2.1
  have h4 : (t + 1) * per d ≤ d.1 * d.2.1 * per d := Int.mul_le_mul_of_nonneg_right (by omega) (by omega)
  rw [Int.add_mul, Int.one_mul] at h4
  have e : outPinP d t k = t * per d + (5 + k) := by unfold outPinP; rw [if_pos q]; omega
  refine ⟨hd, ?_, ?_⟩
  · unfold nodesN; omega
  · unfold nPin; rw [e, Int.add_comm, Int.add_mul_emod_self_right, Int.emod_eq_of_lt (by omega) (by omega)]; omega
theorem inPin_node {d : Dev} {t k : Int} (h : 0 ≤ inPinP d t k) : DOk d ∧ inPinP d t k < nodesN d ∧ nPin d (inPinP d t k) < 5 := by
  unfold inPinP at h
  split at h
  rotate_left
  · omega
  rename_i q
  have ho := inP_le (tk d t)
  obtain ⟨hd, t0, t1, _, q0, q1⟩ := tk_in (d := d) (t := t) (ho.2.2 (by omega))
  have hp := per_le hd
  have hm := mul_le36 hd.1 hd.2.1
  have h4 : (t + 1) * per d ≤ d.1 * d.2.1 * per d := Int.mul_le_mul_of_nonneg_right (by omega) (by omega)
  rw [Int.add_mul, Int.one_mul] at h4
  have e : inPinP d t k = t * per d + k := by unfold inPinP; rw [if_pos q]
  refine ⟨hd, ?_, ?_⟩
  · unfold nodesN; omega
  · unfold nPin; rw [e, Int.add_comm, Int.add_mul_emod_self_right, Int.emod_eq_of_lt (by omega) (by omega)]; omega
theorem src_node {d : Dev} {ps : List Int} {p : Pin} (h : 0 ≤ srcP d ps p) : DOk d ∧ srcP d ps p < nodesN d ∧ nPin d (srcP d ps p) < 7 := by
  unfold srcP at *
  split at h
  · rename_i q; rw [if_pos q]; exact outPin_node h
  · omega
theorem snk_node {d : Dev} {ps : List Int} {ss : List Pin} {x : Int} (h : x ∈ snksP d ps ss) : DOk d ∧ 0 ≤ x ∧ x < nodesN d ∧ nPin d x < 5 := by
  unfold snksP at h
  split at h
  rotate_left
  · simp at h
  rename_i hall
  obtain ⟨p, hp, rfl⟩ := List.mem_map.1 h
  have h0 := of_decide_eq_true (List.all_eq_true.1 hall p hp)
  have : 0 ≤ snkP d ps p → DOk d ∧ 0 ≤ snkP d ps p ∧ snkP d ps p < nodesN d ∧ nPin d (snkP d ps p) < 5 := by
    intro h0
    unfold snkP at *
    split at h0
    · rename_i q; rw [if_pos q]
      have := inPin_node h0
      exact ⟨this.1, h0, this.2⟩
    · omega
  exact this h0
noncomputable def rchL (d : Dev) (src : Int) (cut : List Int) : List Bool := (spec_l35Reach (dG d, (src, seenA (nodesN d).toNat cut))).getD []
noncomputable def sepP (d : Dev) (ps : List Int) (c : Conn) (cut : List Int) : Bool :=
  if 0 ≤ srcP d ps c.2.1 then (if ((snksP d ps c.2.2).all fun s => bAt (rchL d (srcP d ps c.2.1) cut) s.toNat) = true then false else true) else false
theorem rch_spec {d : Dev} {src : Nat} (hd : DOk d) (hs : (src : Int) < nodesN d) (cut : List Int) : spec_l35Reach (dG d, ((src : Int), seenA (nodesN d).toNat cut)) = some (rchL d src cut) ∧ (rchL d src cut).length = (nodesN d).toNat ∧ ∀ v, v < (nodesN d).toNat → (bAt (rchL d src cut) v = true ↔ Rch (nodesN d).toNat (dG d) cut src v) := by
  obtain ⟨R, h1, h2, h3⟩ := reach_spec (cut := cut) (dG_ok hd) (show src < (nodesN d).toNat by omega)
  have e : rchL d src cut = R := by unfold rchL; rw [h1]; rfl
  rw [e]
  exact ⟨h1, h2, h3⟩
theorem barred_spec {d : Dev} (hd : DOk d) (cut : List Int) (hc : ∀ x ∈ cut, 0 ≤ x ∧ x < nodesN d) (hl : cut.length ≤ 1048576) : spec_l35Barred (nodesN d, cut) = some (seenA (nodesN d).toNat cut) := by
  have hn := nodesN_le hd
  unfold spec_l35Barred
  obtain ⟨N, hN⟩ : ∃ N : Nat, nodesN d = (N : Int) := ⟨(nodesN d).toNat, by omega⟩
  rw [hN, gmake_nat (by omega) (by omega), Int.toNat_natCast]
  simp only [Option.bind_some]
  have e0 : ((0 : Int), List.replicate N false) = (fun k : Nat => ((k : Int), seenA N (cut.take k))) 0 := by
    dsimp only; rw [seenA_nil, List.take_zero]; rfl
  rw [e0]
  refine loop_upto cut.length (fun k => ((k : Int), seenA N (cut.take k))) (fun k hk => ?_) ?_
  · have := hc _ (List.getElem_mem hk)
    rw [ns_at hk] at this
    obtain ⟨m, hm⟩ : ∃ m : Nat, nsAt cut k = (m : Int) := ⟨(nsAt cut k).toNat, by omega⟩
    try dsimp only
    rw [dt (show (k : Int) < (cut.length : Int) by omega), cond_true, nsAt_get hk, seenA_len]
    simp only [Option.bind_some]
    rw [hm, gin_nat (by omega), seenA_get _ _ _ (by omega), seenA_set _ _ _ (by omega), wrap_ok (by omega), take_at hk, hm]; rfl
  · try dsimp only
    rw [df (by omega), cond_false, List.take_of_length_le (Nat.le_refl _)]; rfl
theorem apart_spec {d : Dev} (hd : DOk d) (ps : List Int) (c : Conn) (cut : List Int) (hp : PsR ps) (hl : c.2.2.length ≤ 1048576) : spec_l35Apart (dG d, (d, (ps, (c, seenA (nodesN d).toNat cut)))) = some (sepP d ps c cut) := by
  have hn := nodesN_le hd
  unfold spec_l35Apart sepP
  try dsimp only
  rw [src_spec d ps c hp, snks_spec d ps c hp hl]
  simp only [Option.bind_some]
  by_cases h0 : srcP d ps c.2.1 < 0
  · rw [dt h0, if_neg (by omega)]; rfl
  rw [df h0, cond_false, if_pos (by omega)]
  have hsn := src_node (d := d) (ps := ps) (p := c.2.1) (by omega)
  obtain ⟨s, hs⟩ : ∃ s : Nat, srcP d ps c.2.1 = (s : Int) := ⟨(srcP d ps c.2.1).toNat, by omega⟩
  rw [hs] at hsn ⊢
  obtain ⟨r1, r2, r3⟩ := rch_spec hd hsn.2.1 cut
  rw [r1]
  simp only [Option.bind_some]
  have hsl := snks_len d ps c.2.2
  have hsk := fun x (hx : x ∈ snksP d ps c.2.2) => snk_node hx
  generalize snksP d ps c.2.2 = ks at *
  have e := all_range_list ks (fun x => bAt (rchL d (s : Int) cut) x.toNat) (fun k => if hk : k < ks.length then bAt (rchL d (s : Int) cut) (ks[k]).toNat else true) (fun k hk => by rw [dif_pos hk])
  rw [← e]
  refine loop_all ks.length (fun k => (k : Int)) _ true false (fun k hk hok => ?_) (fun k hk hok => ?_) ?_
  · rw [dif_pos hk] at hok
    have hx := hsk _ (List.getElem_mem hk)
    obtain ⟨m, hm⟩ : ∃ m : Nat, ks[k] = (m : Int) := ⟨(ks[k]).toNat, by omega⟩
    try dsimp only
    rw [dt (show (k : Int) < (ks.length : Int) by omega), cond_true, gin_nat hk, gget_nat hk]
    simp only [Option.bind_some]
    rw [hm, Int.toNat_natCast] at hok
    rw [hm, gin_nat (by omega), bAt_get (by omega)]
    simp only [Option.bind_some]
    rw [hok, Bool.not_true, cond_false, wrap_ok (by omega)]; rfl
  · rw [dif_pos hk] at hok
    have hx := hsk _ (List.getElem_mem hk)
    obtain ⟨m, hm⟩ : ∃ m : Nat, ks[k] = (m : Int) := ⟨(ks[k]).toNat, by omega⟩
    try dsimp only
    rw [dt (show (k : Int) < (ks.length : Int) by omega), cond_true, gin_nat hk, gget_nat hk]
    simp only [Option.bind_some]
    rw [hm, Int.toNat_natCast] at hok
    rw [hm, gin_nat (by omega), bAt_get (by omega)]
    simp only [Option.bind_some]
    rw [hok]; rfl
  · try dsimp only
    rw [df (by omega), cond_false]; rfl
theorem gnil_ok (xs : List Int) : gnil true xs = some xs.isEmpty := rfl
theorem someE {α : Type} {X : Option α} {v : α} (h : ∃ o, X = some o ∧ o = v) : X = some v := by
  obtain ⟨o, h1, h2⟩ := h
  rw [h1, h2]
theorem sep_impl {d : Dev} (hd : DOk d) {R : List (List Int)} (hR : RevOk (nodesN d).toNat (dG d) R) (ps : List Int) (c : Conn) (cut : List Int) (hp : PsR ps) (hpl : ps.length ≤ 1048576) (hl : c.2.2.length ≤ 1048576) (hcut : ∀ x ∈ cut, isWireP d x) (hcl : cut.length ≤ 1048576) :
    impl_isSeparated (d, ((dG d, R), (ps, (c, cut)))) = some (sepP d ps c cut) := by
  have hn := nodesN_le hd
  unfold impl_isSeparated sepP
  try dsimp only
  rw [src_impl d ps c hp hpl, snks_impl d ps c hp hpl hl]
  simp only [Option.bind_some]
  by_cases h0 : srcP d ps c.2.1 < 0
  · rw [dt h0, if_neg (by omega)]; rfl
  rw [df h0, cond_false, if_pos (by omega)]
  have hsn := src_node (d := d) (ps := ps) (p := c.2.1) (by omega)
  obtain ⟨s, hs⟩ : ∃ s : Nat, srcP d ps c.2.1 = (s : Int) := ⟨(srcP d ps c.2.1).toNat, by omega⟩
  rw [hs] at hsn ⊢
  have hsc : (s : Int) ∉ cut := fun q => by have := (hcut _ q).2; omega
  obtain ⟨r1, r2, r3⟩ := rch_spec hd hsn.2.1 cut
  have hsl := snks_len d ps c.2.2
  have hsk := fun x (hx : x ∈ snksP d ps c.2.2) => snk_node hx
  generalize snksP d ps c.2.2 = ks at *
  rw [gnil_ok]
  simp only [Option.bind_some]
  cases hks : ks.isEmpty with
  | true =>
    have : ks = [] := by simpa using hks
    subst this
    rfl
  | false =>
  rw [cond_false, routeNodes_impl hd]
  simp only [Option.bind_some]
  have hG := dG_ok hd
  obtain ⟨N, hN⟩ : ∃ N : Nat, nodesN d = (N : Int) := ⟨(nodesN d).toNat, by omega⟩
  have hNN : (nodesN d).toNat = N := by omega
  rw [hNN] at r2 r3 hR hG
  rw [hN, gmake_nat (by omega) (by omega)]
  simp only [Option.bind_some]
  have hsN : s < N := by omega
  have hcr : ∀ x ∈ cut, 0 ≤ x ∧ x < (N : Int) := fun x hx => by
    have := hcut x hx
    have h1 := this.1.2.1
    have h2 := this.1.2.2.1
    omega
  have e0 : ((0 : Int), List.replicate N false) = (fun k : Nat => ((k : Int), seenA N (cut.take k))) 0 := by
    dsimp only; rw [seenA_nil, List.take_zero]; rfl
  rw [e0]
  refine loop_upto cut.length (fun k => ((k : Int), seenA N (cut.take k))) (fun k hk => ?_) ?_
  · have := hcr _ (List.getElem_mem hk)
    rw [ns_at hk] at this
    obtain ⟨m, hm⟩ : ∃ m : Nat, nsAt cut k = (m : Int) := ⟨(nsAt cut k).toNat, by omega⟩
    try dsimp only
    rw [dt (show (k : Int) < (cut.length : Int) by omega), cond_true, nsAt_get hk, seenA_len]
    simp only [Option.bind_some]
    rw [hm, gin_nat (by omega), seenA_get _ _ _ (by omega), seenA_set _ _ _ (by omega), wrap_ok (by omega), take_at hk, hm]; rfl
  try dsimp only
  rw [df (show ¬ (cut.length : Int) < (cut.length : Int) by omega), cond_false, List.take_of_length_le (Nat.le_refl _)]
  refine (Option.map_eq_some_iff).2 ⟨_, ?_, rfl⟩
  have hsal := seenA_len N cut
  rw [gapp_some (by simp [hsal]; omega) (by simp [hsal]; omega)]
  simp only [Option.bind_some, List.nil_append]
  rw [gin_nat (by omega), bAt_get (by omega), gset_nat]
  simp only [Option.bind_some]
  have hset0 := fun w => bAt_set (R := seenA N cut) (k := s) true w (by omega)
  have hRl := hR.1
  have hGl := hG.1
  have hNl := hG.2.1
  have hnf := nF_le ((seenA N cut).set s true)
  rw [List.length_set, hsal] at hnf
  refine someE ?_
  refine loop_spec (fun st : List Bool × List Int => st.1.length = N ∧ (∀ v, v < N → bAt st.1 v = true → (v : Int) ∈ cut ∨ Rch N (dG d) cut s v) ∧ (∀ v, v < N → (v : Int) ∈ cut → bAt st.1 v = true) ∧ bAt st.1 s = true ∧ st.2.length + nF st.1 ≤ N + 1 ∧ (∀ q ∈ st.2, (0 ≤ q ∧ q < (N : Int)) ∧ Rch N (dG d) cut s q.toNat) ∧ (∀ u v : Nat, u < N → v < N → (u : Int) ∈ gAt (dG d) v → bAt st.1 u = true → (u : Int) ∉ cut → bAt st.1 v = true ∨ (u : Int) ∈ st.2)) _ (fun st => 2 * nF st.1 + st.2.length) (fun st hI => ?_) ((seenA N cut).set s true, [(s : Int)]) ⟨by simp [hsal], fun v hv hb => ?_, fun v hv hb => ?_, by rw [hset0, if_pos rfl], by simp only [List.length_cons, List.length_nil]; omega, fun q hq => ?_, fun u v hu hv hm hb hc => ?_⟩
  rotate_left
  · simp only at hb
    rw [hset0] at hb
    by_cases q : v = s
    · subst q; exact Or.inr Rch.base
    · rw [if_neg q, seenA_at hv] at hb
      exact Or.inl (of_decide_eq_true hb)
  · simp only
    rw [hset0]
    split
    · rfl
    · rw [seenA_at hv]; exact decide_eq_true hb
  · have := List.mem_singleton.1 hq
    subst this
    rw [Int.toNat_natCast]
    exact ⟨by omega, Rch.base⟩
  · simp only at hb
    rw [hset0] at hb
    by_cases q : u = s
    · subst q; right; simp
    · rw [if_neg q, seenA_at hu] at hb
      exact absurd (of_decide_eq_true hb) hc
  obtain ⟨S, Q⟩ := st
  obtain ⟨hSl, hS1, hS2, hS3, hQl, hQ, hcl2⟩ := hI
  simp only at hSl hS1 hS2 hS3 hQl hQ hcl2
  try dsimp only
  by_cases hq0 : 0 < (Q.length : Int)
  rotate_left
  · right
    rw [df hq0, cond_false]
    have hQn : Q = [] := List.length_eq_zero_iff.1 (by omega)
    subst hQn
    have hiff : ∀ v, v < N → (v : Int) ∉ cut → bAt S v = bAt (rchL d (s : Int) cut) v := by
      intro v hv hvc
      rw [Bool.eq_iff_iff, r3 v hv]
      constructor
      · intro hb
        rcases hS1 v hv hb with q | q
        · exact absurd q hvc
        · exact q
      · intro hr
        clear hvc
        induction hr with
        | base => exact hS3
        | step u v hu huN hvN hm hc ih =>
          by_cases huc : (u : Int) ∈ cut
          · cases hu with
            | base => exact absurd huc hsc
            | step w _ _ _ _ _ hc2 => exact absurd huc hc2
          · rcases hcl2 u v huN hvN hm (ih huN) huc with q | q
            · exact q
            · simp at q
    refine mapE ?_
    refine ⟨_, ?_, rfl⟩
    have e := all_range_list ks (fun x => bAt (rchL d (s : Int) cut) x.toNat) (fun k => if hk : k < ks.length then bAt (rchL d (s : Int) cut) (ks[k]).toNat else true) (fun k hk => by rw [dif_pos hk])
    rw [← e]
    refine loop_all ks.length (fun k => (k : Int)) _ true false (fun k hk hok => ?_) (fun k hk hok => ?_) ?_
    · rw [dif_pos hk] at hok
      have hx := hsk _ (List.getElem_mem hk)
      obtain ⟨m, hm⟩ : ∃ m : Nat, ks[k] = (m : Int) := ⟨(ks[k]).toNat, by omega⟩
      have hmc : (m : Int) ∉ cut := fun q => by have := (hcut _ q).2; rw [← hm] at this; omega
      try dsimp only
      rw [dt (show (k : Int) < (ks.length : Int) by omega), cond_true, gin_nat hk, gget_nat hk]
      simp only [Option.bind_some]
      rw [hm, Int.toNat_natCast] at hok
      rw [hm, gin_nat (by omega), bAt_get (by omega)]
      simp only [Option.bind_some]
      rw [hiff m (by omega) hmc, hok, Bool.not_true, cond_false, hsal, gin_nat (by omega), seenA_get _ _ _ (by omega)]
      simp only [Option.bind_some]
      rw [df hmc, cond_false, wrap_ok (by omega)]; rfl
    · rw [dif_pos hk] at hok
      have hx := hsk _ (List.getElem_mem hk)
      obtain ⟨m, hm⟩ : ∃ m : Nat, ks[k] = (m : Int) := ⟨(ks[k]).toNat, by omega⟩
      have hmc : (m : Int) ∉ cut := fun q => by have := (hcut _ q).2; rw [← hm] at this; omega
      try dsimp only
      rw [dt (show (k : Int) < (ks.length : Int) by omega), cond_true, gin_nat hk, gget_nat hk]
      simp only [Option.bind_some]
      rw [hm, Int.toNat_natCast] at hok
      rw [hm, gin_nat (by omega), bAt_get (by omega)]
      simp only [Option.bind_some]
      rw [hiff m (by omega) hmc, hok]; rfl
    · try dsimp only
      rw [df (by omega), cond_false]; rfl
  left
  obtain ⟨qh, Q', rfl⟩ : ∃ a r, Q = a :: r := by
    cases Q with
    | nil => simp at hq0
    | cons a r => exact ⟨a, r, rfl⟩
  have hqh := hQ qh (by simp)
  obtain ⟨n, rfl⟩ : ∃ n : Nat, qh = (n : Int) := ⟨qh.toNat, by omega⟩
  rw [Int.toNat_natCast] at hqh
  have hnN : n < N := by omega
  have hRn := hR.2 n hnN
  have g0 : gget 0 ((n : Int) :: Q') 0 = some (n : Int) := gget_nat (show 0 < ((n : Int) :: Q').length by simp)
  have i0 : gin ((n : Int) :: Q').length 0 = some () := gin_nat (show 0 < ((n : Int) :: Q').length by simp)
  have esl : gslice ((n : Int) :: Q') 1 (((n : Int) :: Q').length : Int) = some Q' := by
    have := gslice_suf (xs := (n : Int) :: Q') (k := 1) (by simp)
    simpa using this
  rw [dt hq0, cond_true, i0, g0, esl]
  simp only [Option.bind_some]
  rw [gAt_get (by omega)]
  simp only [Option.bind_some]
  simp only [List.length_cons] at hQl
  refine stepE (A := fun st' : List Bool × List Int => (st'.1.length = N ∧ (∀ v, v < N → bAt st'.1 v = true → (v : Int) ∈ cut ∨ Rch N (dG d) cut s v) ∧ (∀ v, v < N → (v : Int) ∈ cut → bAt st'.1 v = true) ∧ bAt st'.1 s = true ∧ st'.2.length + nF st'.1 ≤ N + 1 ∧ (∀ q ∈ st'.2, (0 ≤ q ∧ q < (N : Int)) ∧ Rch N (dG d) cut s q.toNat) ∧ (∀ u v : Nat, u < N → v < N → (u : Int) ∈ gAt (dG d) v → bAt st'.1 u = true → (u : Int) ∉ cut → bAt st'.1 v = true ∨ (u : Int) ∈ st'.2)) ∧ 2 * nF st'.1 + st'.2.length < 2 * nF S + ((n : Int) :: Q').length) ?_
  refine loop_spec (fun st : Int × (List Bool × List Int) => (0 ≤ st.1 ∧ st.1 ≤ (gAt R n).length) ∧ st.2.1.length = N ∧ (∀ v, v < N → bAt st.2.1 v = true → (v : Int) ∈ cut ∨ Rch N (dG d) cut s v) ∧ (∀ v, v < N → (v : Int) ∈ cut → bAt st.2.1 v = true) ∧ bAt st.2.1 s = true ∧ st.2.2.length + nF st.2.1 ≤ N + 1 ∧ (∀ q ∈ st.2.2, (0 ≤ q ∧ q < (N : Int)) ∧ Rch N (dG d) cut s q.toNat) ∧ (∀ u v : Nat, u < N → v < N → (u : Int) ∈ gAt (dG d) v → bAt st.2.1 u = true → (u : Int) ∉ cut → bAt st.2.1 v = true ∨ (u : Int) ∈ st.2.2 ∨ (u = n ∧ (v : Int) ∉ (gAt R n).take st.1.toNat)) ∧ 2 * nF st.2.1 + st.2.2.length < 2 * nF S + Q'.length + 1) _ (fun st => ((gAt R n).length - st.1).toNat) (fun st hI => ?_) (0, (S, Q')) ⟨⟨by simp, by simp⟩, hSl, hS1, hS2, hS3, by simp only; omega, fun q hq => hQ q (List.mem_cons_of_mem _ hq), fun u v hu hv hm hb hc => ?_, by simp only; omega⟩
  rotate_left
  · rcases hcl2 u v hu hv hm hb hc with q | q
    · exact Or.inl q
    · rcases List.mem_cons.1 q with q | q
      · exact Or.inr (Or.inr ⟨by omega, by simp⟩)
      · exact Or.inr (Or.inl q)
  clear hS1 hS2 hS3 hQl hcl2 hSl
  obtain ⟨j, E, T⟩ := st
  obtain ⟨⟨j0, j1⟩, hSl, hS1, hS2, hS3, hQl, hQ2, hcl2, hmu⟩ := hI
  simp only at j0 j1 hSl hS1 hS2 hS3 hQl hQ2 hcl2 hmu
  try dsimp only
  by_cases hj : j < ((gAt R n).length : Int)
  rotate_left
  · right
    rw [df hj, cond_false]
    refine ⟨_, rfl, _, rfl, ⟨hSl, hS1, hS2, hS3, hQl, hQ2, fun u v hu hv hm hb hc => ?_⟩, by simp only [List.length_cons]; omega⟩
    rcases hcl2 u v hu hv hm hb hc with q | q | ⟨q1, q2⟩
    · exact Or.inl q
    · exact Or.inr q
    · refine absurd ?_ q2
      rw [List.take_of_length_le (by omega)]
      subst q1
      exact (hRn.2.2 v hv).2 hm
  left
  obtain ⟨k, rfl⟩ : ∃ k : Nat, j = (k : Int) := ⟨j.toNat, by omega⟩
  have hk : k < (gAt R n).length := by omega
  have hmem : nsAt (gAt R n) k ∈ gAt R n := by rw [← ns_at hk]; exact List.getElem_mem hk
  have hvr := hRn.2.1 _ hmem
  obtain ⟨v, hv⟩ : ∃ v : Nat, nsAt (gAt R n) k = (v : Int) := ⟨(nsAt (gAt R n) k).toNat, by omega⟩
  rw [hv] at hmem
  have hvN : v < N := by omega
  have hedge : (n : Int) ∈ gAt (dG d) v := (hRn.2.2 v hvN).1 hmem
  have hsucc : ((k : Int) + 1).toNat = k + 1 := by omega
  have hkk : ((k : Int)).toNat = k := by omega
  rw [hkk] at hcl2
  rw [dt hj, cond_true, nsAt_get hk]
  simp only [Option.bind_some]
  rw [hv, gin_nat (show v < E.length by omega), bAt_get (show v < E.length by omega), wrap_ok (z := (k : Int) + 1) (by omega)]
  simp only [Option.bind_some]
  have adv : ∀ (u w : Nat), (w : Int) ∉ (gAt R n).take k → w ≠ v → (w : Int) ∉ (gAt R n).take (k + 1) := by
    intro u w h1 h2 q
    rw [take_at hk, hv] at q
    rcases List.mem_append.1 q with q | q
    · exact h1 q
    · have := List.mem_singleton.1 q; omega
  cases hbv : bAt E v with
  | true =>
    rw [Bool.not_true, cond_false]
    refine ⟨_, rfl, ⟨⟨by simp only; omega, by simp only; omega⟩, hSl, hS1, hS2, hS3, hQl, hQ2, fun u w hu hw hm hb hc => ?_, hmu⟩, by simp only; omega⟩
    rcases hcl2 u w hu hw hm hb hc with q | q | ⟨q1, q2⟩
    · exact Or.inl q
    · exact Or.inr (Or.inl q)
    · by_cases qw : w = v
      · left; rw [qw]; exact hbv
      · refine Or.inr (Or.inr ⟨q1, ?_⟩)
        simp only
        rw [hsucc]; exact adv u w q2 qw
  | false =>
    have hset := fun w => bAt_set (R := E) (k := v) true w (by omega)
    have hnf2 := nF_set E v (by omega) hbv
    have hvc : (v : Int) ∉ cut := fun q => by rw [hS2 v hvN q] at hbv; simp at hbv
    have hnc : (n : Int) ∉ cut := by
      intro q
      cases hqh.2 with
      | base => exact hsc q
      | step w _ _ _ _ _ hc2 => exact hc2 q
    have hrv : Rch N (dG d) cut s v := Rch.step n v hqh.2 hnN hvN hedge hvc
    rw [Bool.not_false, cond_true, gset_nat, gapp_ok (by simp only [List.length_cons, List.length_nil]; omega)]
    simp only [Option.bind_some]
    refine ⟨_, rfl, ⟨⟨by simp only; omega, by simp only; omega⟩, by simp only [List.length_set]; exact hSl, fun w hw hb => ?_, fun w hw hb => ?_, ?_, by simp only [List.length_append, List.length_cons, List.length_nil]; omega, fun q hq => ?_, fun u w hu hw hm hb hc => ?_, by simp only [List.length_append, List.length_cons, List.length_nil]; omega⟩, by simp only; omega⟩
    · simp only at hb
      rw [hset] at hb
      by_cases q : w = v
      · subst q; exact Or.inr hrv
      · rw [if_neg q] at hb; exact hS1 w hw hb
    · simp only
      rw [hset]
      split
      · rfl
      · exact hS2 w hw hb
    · simp only
      rw [hset]
      split
      · rfl
      · exact hS3
    · rcases List.mem_append.1 hq with q | q
      · exact hQ2 _ q
      · have := List.mem_singleton.1 q
        subst this
        rw [Int.toNat_natCast]
        exact ⟨by omega, hrv⟩
    · simp only at hb ⊢
      rw [hset] at hb
      rw [hset]
      by_cases qw : w = v
      · left; rw [if_pos qw]
      · rw [if_neg qw]
        by_cases qu : u = v
        · subst qu; exact Or.inr (Or.inl (List.mem_append_right _ (by simp)))
        · rw [if_neg qu] at hb
          rcases hcl2 u w hu hw hm hb hc with q | q | ⟨q1, q2⟩
          · exact Or.inl q
          · exact Or.inr (Or.inl (List.mem_append_left _ q))
          · refine Or.inr (Or.inr ⟨q1, ?_⟩)
            rw [hsucc]; exact adv u w q2 qw

/-! ### Sets of wires -/
def wsOk (d : Dev) (xs : List Int) (k : Nat) : Prop := isWireP d (nsAt xs k) ∧ (0 < k → nsAt xs (k - 1) < nsAt xs k)
instance (d : Dev) (xs : List Int) (k : Nat) : Decidable (wsOk d xs k) := by unfold wsOk; exact inferInstance
def wsP (d : Dev) (xs : List Int) : Bool := (List.range xs.length).all (fun k => decide (wsOk d xs k)) && decide (DOk d)
theorem wsP_wires {d : Dev} {xs : List Int} (h : wsP d xs = true) : DOk d ∧ ∀ x ∈ xs, isWireP d x := by
  unfold wsP at h
  rw [Bool.and_eq_true] at h
  refine ⟨of_decide_eq_true h.2, fun x hx => ?_⟩
  obtain ⟨k, hk, rfl⟩ := nsAt_mem hx
  exact (of_decide_eq_true (List.all_eq_true.1 h.1 k (List.mem_range.2 hk))).1
theorem set_spec (d : Dev) (xs : List Int) (hl : xs.length ≤ 1048576) : spec_l35Set (d, xs) = some (wsP d xs) := by
  unfold spec_l35Set wsP
  have e : ((List.range xs.length).all (fun k => decide (wsOk d xs k)) && decide (DOk d)) = if (List.range xs.length).all (fun k => decide (wsOk d xs k)) = true then decide (DOk d) else false := by
    cases (List.range xs.length).all (fun k => decide (wsOk d xs k)) <;> rfl
  rw [e]
  refine loop_all xs.length (fun k => (k : Int)) _ false _ (fun k hk hok => ?_) (fun k hk hok => ?_) ?_
  · have hok := of_decide_eq_true hok
    try dsimp only
    rw [dt (show (k : Int) < (xs.length : Int) by omega), cond_true, nsAt_get hk]
    simp only [Option.bind_some]
    rw [isWire_spec, wrap_ok (z := (k : Int) + 1) (by omega)]
    simp only [Option.bind_some]
    rw [dt hok.1, Bool.not_true, cond_false]
    by_cases k0 : 0 < (k : Int)
    · rw [dt k0, cond_true, wrap_ok (z := (k : Int) - 1) (by omega)]
      have e1 : (k : Int) - 1 = ((k - 1 : Nat) : Int) := by omega
      rw [e1, nsAt_get (show k - 1 < xs.length by omega)]
      simp only [Option.bind_some]
      have := hok.2 (by omega)
      rw [df (by omega), cond_false]; rfl
    · rw [df k0, cond_false]; rfl
  · have hok := of_decide_eq_false hok
    try dsimp only
    rw [dt (show (k : Int) < (xs.length : Int) by omega), cond_true, nsAt_get hk]
    simp only [Option.bind_some]
    rw [isWire_spec]
    simp only [Option.bind_some]
    by_cases g : isWireP d (nsAt xs k)
    rotate_left
    · rw [df g]; rfl
    rw [dt g, Bool.not_true, cond_false]
    by_cases k0 : 0 < (k : Int)
    · rw [dt k0, cond_true, wrap_ok (z := (k : Int) - 1) (by omega)]
      have e1 : (k : Int) - 1 = ((k - 1 : Nat) : Int) := by omega
      rw [e1, nsAt_get (show k - 1 < xs.length by omega)]
      simp only [Option.bind_some]
      by_cases g2 : nsAt xs k ≤ nsAt xs (k - 1)
      · rw [dt g2]; rfl
      · exact absurd ⟨g, fun _ => by omega⟩ hok
    · exact absurd ⟨g, fun q => by omega⟩ hok
  · try dsimp only
    rw [df (by omega), cond_false, devOk_spec]; rfl
theorem asc_impl (xs : List Int) (hl : xs.length ≤ 1048576) : impl_strictlyAscending xs = some ((List.range (xs.length - 1)).all fun k => decide (nsAt xs k < nsAt xs (k + 1))) := by
  unfold impl_strictlyAscending
  have e : ((List.range (xs.length - 1)).all fun k => decide (nsAt xs k < nsAt xs (k + 1))) = if ((List.range (xs.length - 1)).all fun k => decide (nsAt xs k < nsAt xs (k + 1))) = true then true else false := by
    cases (List.range (xs.length - 1)).all fun k => decide (nsAt xs k < nsAt xs (k + 1)) <;> rfl
  rw [e]
  refine loop_all (xs.length - 1) (fun k => (k : Int) + 1) _ false true (fun k hk hok => ?_) (fun k hk hok => ?_) ?_
  · have hok := of_decide_eq_true hok
    have e1 : (k : Int) + 1 = ((k + 1 : Nat) : Int) := rfl
    try dsimp only
    rw [dt (show (k : Int) + 1 < (xs.length : Int) by omega), cond_true, wrap_ok (z := (k : Int) + 1 - 1) (by omega), wrap_ok (z := (k : Int) + 1 + 1) (by omega), Int.add_sub_cancel, nsAt_get (show k < xs.length by omega)]
    simp only [Option.bind_some]
    rw [e1, nsAt_get (show k + 1 < xs.length by omega)]
    simp only [Option.bind_some]
    rw [df (by omega), cond_false]
  · have hok := of_decide_eq_false hok
    have e1 : (k : Int) + 1 = ((k + 1 : Nat) : Int) := rfl
    try dsimp only
    rw [dt (show (k : Int) + 1 < (xs.length : Int) by omega), cond_true, wrap_ok (z := (k : Int) + 1 - 1) (by omega), Int.add_sub_cancel, nsAt_get (show k < xs.length by omega)]
    simp only [Option.bind_some]
    rw [e1, nsAt_get (show k + 1 < xs.length by omega)]
    simp only [Option.bind_some]
    rw [dt (by omega)]; rfl
  · try dsimp only
    rw [df (by omega), cond_false]; rfl
theorem wset_impl (d : Dev) (hd : DOk d) (xs : List Int) (hl : xs.length ≤ 1048576) : impl_wireSetOk (d, xs) = some (wsP d xs) := by
  unfold impl_wireSetOk
  rw [asc_impl xs hl]
  simp only [Option.bind_some]
  have conv : wsP d xs = (((List.range (xs.length - 1)).all fun k => decide (nsAt xs k < nsAt xs (k + 1))) && (List.range xs.length).all (fun k => decide (isWireP d (nsAt xs k)))) := by
    unfold wsP
    rw [dt hd, Bool.and_true, Bool.eq_iff_iff, Bool.and_eq_true, List.all_eq_true, List.all_eq_true, List.all_eq_true]
    constructor
    · intro h
      refine ⟨fun k hk => ?_, fun k hk => decide_eq_true (of_decide_eq_true (h k hk)).1⟩
      have hk := List.mem_range.1 hk
      have := (of_decide_eq_true (h (k + 1) (List.mem_range.2 (by omega)))).2 (by omega)
      exact decide_eq_true this
    · rintro ⟨h1, h2⟩ k hk
      refine decide_eq_true ⟨of_decide_eq_true (h2 k hk), fun k0 => ?_⟩
      have hk := List.mem_range.1 hk
      have := of_decide_eq_true (h1 (k - 1) (List.mem_range.2 (by omega)))
      rw [show k - 1 + 1 = k by omega] at this
      exact this
  rw [conv]
  cases ((List.range (xs.length - 1)).all fun k => decide (nsAt xs k < nsAt xs (k + 1))) with
  | false => rfl
  | true =>
    rw [Bool.not_true, cond_false, Bool.true_and]
    have e : (List.range xs.length).all (fun k => decide (isWireP d (nsAt xs k))) = if (List.range xs.length).all (fun k => decide (isWireP d (nsAt xs k))) = true then true else false := by
      cases (List.range xs.length).all (fun k => decide (isWireP d (nsAt xs k))) <;> rfl
    rw [e]
    refine loop_all xs.length (fun k => (k : Int)) _ false true (fun k hk hok => ?_) (fun k hk hok => ?_) ?_
    · try dsimp only
      rw [dt (show (k : Int) < (xs.length : Int) by omega), cond_true, nsAt_get hk]
      simp only [Option.bind_some]
      rw [isWire_impl]
      simp only [Option.bind_some]
      rw [hok, Bool.not_true, cond_false, wrap_ok (by omega)]; rfl
    · try dsimp only
      rw [dt (show (k : Int) < (xs.length : Int) by omega), cond_true, nsAt_get hk]
      simp only [Option.bind_some]
      rw [isWire_impl]
      simp only [Option.bind_some]
      rw [hok]; rfl
    · try dsimp only
      rw [df (by omega), cond_false]; rfl
noncomputable def isSepP (d : Dev) (ps : List Int) (c : Conn) (cut : List Int) : Bool := if wsP d cut = true then sepP d ps c cut else false
theorem isSep_spec (d : Dev) (ps : List Int) (c : Conn) (cut : List Int) (hp : PsR ps) (hl : c.2.2.length ≤ 1048576) (hcl : cut.length ≤ 1048576) : spec_IsSeparated (d, (ps, (c, cut))) = some (isSepP d ps c cut) := by
  unfold spec_IsSeparated isSepP
  rw [set_spec d cut hcl]
  simp only [Option.bind_some]
  cases hw : wsP d cut with
  | false => rfl
  | true =>
    obtain ⟨hd, hc⟩ := wsP_wires hw
    rw [cond_true, graph_spec hd, routeNodes_spec, if_pos hd]
    simp only [Option.bind_some]
    rw [barred_spec hd cut (fun x hx => ⟨(hc x hx).1.2.1, (hc x hx).1.2.2.1⟩) hcl]
    simp only [Option.bind_some]
    rw [apart_spec hd ps c cut hp hl]; rfl
theorem isSep_impl (d : Dev) (ps : List Int) (c : Conn) (cut : List Int) (hp : PsR ps) (hpl : ps.length ≤ 1048576) (hl : c.2.2.length ≤ 1048576) (hcl : cut.length ≤ 1048576) : impl_IsSeparated (d, (ps, (c, cut))) = some (isSepP d ps c cut) := by
  unfold impl_IsSeparated isSepP
  rw [devOk_impl]
  simp only [Option.bind_some]
  by_cases hd : DOk d
  rotate_left
  · have : wsP d cut = false := by unfold wsP; rw [df hd, Bool.and_false]
    rw [df hd, cond_false, this]; rfl
  rw [dt hd, cond_true, wset_impl d hd cut hcl]
  simp only [Option.bind_some]
  cases hw : wsP d cut with
  | false => rfl
  | true =>
    obtain ⟨_, hc⟩ := wsP_wires hw
    obtain ⟨R, h1, h2⟩ := graph_impl hd
    rw [cond_true, h1]
    simp only [Option.bind_some]
    rw [sep_impl hd h2 ps c cut hp hpl hl hc hcl]; rfl
end Go.Pf
