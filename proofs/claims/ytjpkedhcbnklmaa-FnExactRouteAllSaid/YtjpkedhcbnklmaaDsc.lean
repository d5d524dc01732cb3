/-
  Own work. Cheapest distances: the program's queue; the device's graph, both ways.
-/
import Derived.Test.YtjpkedhcbnklmaaDsb
namespace Go.Pf
open Go Go.Pu
set_option linter.unusedVariables false

def RevOk (N : Nat) (G R : List (List Int)) : Prop := R.length = N ∧ ∀ u, u < N → (gAt R u).length ≤ 1000000 ∧ (∀ x ∈ gAt R u, 0 ≤ x ∧ x < (N : Int)) ∧ ∀ v : Nat, v < N → ((v : Int) ∈ gAt R u ↔ (u : Int) ∈ gAt G v)
/-- What the program's main loop keeps. -/
def QInv (N : Nat) (G : List (List Int)) (cs ss D : List Int) (Q : List Qe) (P : Nat → Nat → Prop) : Prop :=
  DInv N G cs ss D ∧ St0 ss D ∧ Q.length + pot D ≤ 82800001 * 828 ∧
  (∀ e ∈ Q, (0 ≤ e.2 ∧ e.2 < (N : Int)) ∧ 0 ≤ nsAt D e.2.toNat ∧ nsAt D e.2.toNat ≤ e.1) ∧
  (∀ u v : Nat, u < N → v < N → (u : Int) ∈ gAt G v → 0 ≤ nsAt D u → Sat cs D u v ∨ (nsAt D u, (u : Int)) ∈ Q ∨ P u v)
theorem dist_impl {N : Nat} {G R : List (List Int)} {cs ss : List Int} (hG : GrOk N G) (hR : RevOk N G R) (hc : CsOk N cs) (hs : ∀ s ∈ ss, 0 ≤ s ∧ s < (N : Int)) (hsl : ss.length ≤ 1048576) : ∃ D, impl_distances ((G, R), (cs, ss)) = some D ∧ IsDist N G cs ss D := by
  have hN := hG.2.1
  have hGl := hG.1
  have hcl := hc.1
  unfold impl_distances
  try dsimp only
  rw [hcl, gmake_nat (by omega) (by omega)]
  simp only [Option.bind_some, List.length_replicate]
  have e0 : ((0 : Int), List.replicate N (0 : Int)) = (fun k : Nat => ((k : Int), List.replicate k (-1) ++ List.replicate (N - k) (0 : Int))) 0 := by simp
  rw [e0]
  refine loop_uptoE N (fun k => ((k : Int), List.replicate k (-1) ++ List.replicate (N - k) (0 : Int))) _ (fun k hk => ?_) ?_
  · have hl : (List.replicate k (-1) ++ List.replicate (N - k) (0 : Int)).length = N := by simp; omega
    try dsimp only
    rw [dt (show (k : Int) < (N : Int) by omega), cond_true, hl, gin_nat hk, gget_nat (show k < _ by rw [hl]; exact hk)]
    simp only [Option.bind_some]
    rw [wrap_ok (by omega), gset_nat, List.set_append_right _ _ (by simp)]
    have e1 : k - (List.replicate k (-1 : Int)).length = 0 := by simp
    obtain ⟨m, hm⟩ : ∃ m, N - k = m + 1 := ⟨N - k - 1, by omega⟩
    have e2 : N - (k + 1) = m := by omega
    rw [e1, hm, List.replicate_succ, List.set_cons_zero, e2]
    have e3 : List.replicate k (-1 : Int) ++ -1 :: List.replicate m 0 = List.replicate (k + 1) (-1) ++ List.replicate m 0 := by
      rw [List.replicate_succ']; simp
    rw [e3]; rfl
  try dsimp only
  rw [df (show ¬ (N : Int) < (N : Int) by omega), cond_false]
  have eN : List.replicate N (-1 : Int) ++ List.replicate (N - N) (0 : Int) = List.replicate N (-1) := by simp
  rw [eN]
  refine mapE ?_
  have hD0 := dInit N G cs ss
  have hpot0 := pot_le hG hD0
  refine loop_spec (fun s : List Qe × (Int × List Int) => (0 ≤ s.2.1 ∧ s.2.1 ≤ ss.length) ∧ DInv N G cs ss s.2.2 ∧ (∀ j : Nat, (j : Int) < s.2.1 → nsAt s.2.2 (nsAt ss j).toNat = 0) ∧ s.1.length + pot s.2.2 ≤ 82800001 * 828 ∧ (∀ e ∈ s.1, (0 ≤ e.2 ∧ e.2 < (N : Int)) ∧ 0 ≤ nsAt s.2.2 e.2.toNat ∧ nsAt s.2.2 e.2.toNat ≤ e.1) ∧ (∀ u : Nat, u < N → 0 ≤ nsAt s.2.2 u → (nsAt s.2.2 u, (u : Int)) ∈ s.1)) _ (fun s => (ss.length - s.2.1).toNat) (fun s hI => ?_) (([] : List Qe), (0, List.replicate N (-1))) ⟨⟨by simp, by simp⟩, hD0, fun j hj => by simp only at hj; omega, by simpa using hpot0, fun e he => by simp at he, fun u hu h0 => by simp only at h0; rw [nsAt_rep _ _ hu] at h0; omega⟩
  obtain ⟨Q, i, D⟩ := s
  obtain ⟨⟨i0, i1⟩, hD, hz, hQ, hQe, hall⟩ := hI
  simp only at i0 i1 hD hz hQ hQe hall
  have hDl := hD.1
  try dsimp only
  by_cases hi : i < (ss.length : Int)
  · left
    obtain ⟨n, rfl⟩ : ∃ n : Nat, i = (n : Int) := ⟨i.toNat, by omega⟩
    have hn : n < ss.length := by omega
    have hmem : nsAt ss n ∈ ss := by rw [← ns_at hn]; exact List.getElem_mem hn
    have hsn := hs _ hmem
    obtain ⟨v, hv⟩ : ∃ v : Nat, nsAt ss n = (v : Int) := ⟨(nsAt ss n).toNat, by omega⟩
    have hvN : v < N := by omega
    rw [dt hi, cond_true, nsAt_get hn]
    simp only [Option.bind_some]
    rw [hv, gin_nat (by omega), nsAt_get (show v < D.length by omega)]
    simp only [Option.bind_some]
    rw [wrap_ok (z := (n : Int) + 1) (by omega)]
    by_cases g : nsAt D v ≠ 0
    · rw [dt g, cond_true, gset_nat]
      have st := setStart hG hD hvN (by rw [← hv]; exact hmem)
      have st3 := st.2.2 g
      have bv := hD.bound hG hvN
      obtain ⟨q', e1, e2⟩ := push_ok Q (0, (v : Int)) (by omega)
      have hql := e2.length_eq
      simp only [List.length_cons] at hql
      rw [e1]
      simp only [Option.bind_some]
      refine ⟨_, rfl, ⟨⟨by simp only; omega, by simp only; omega⟩, st.1, fun j hj => ?_, by simp only; omega, fun e he => ?_, fun u hu h0 => ?_⟩, by simp only; omega⟩
      · simp only at hj ⊢
        rw [nsAt_set _ _ (by omega)]
        split
        · rfl
        · rename_i hne
          by_cases e : j = n
          · subst e; rw [hv] at hne; exact absurd (Int.toNat_natCast v) hne
          · exact hz j (by omega)
      · simp only at he ⊢
        rw [nsAt_set _ _ (by omega)]
        rcases List.mem_cons.1 (e2.mem_iff.1 he) with e4 | e4
        · subst e4
          refine ⟨⟨by simp only; omega, by simp only; omega⟩, ?_⟩
          split
          · simp
          · rename_i hne; exact absurd (Int.toNat_natCast v) hne
        · have := hQe _ e4
          refine ⟨this.1, ?_⟩
          split
          · rename_i hq
            rw [hq] at this
            omega
          · exact this.2
      · simp only at h0 ⊢
        rw [nsAt_set _ _ (by omega)] at h0 ⊢
        split
        · rename_i hq; subst hq; exact e2.mem_iff.2 (by simp)
        · rename_i hq
          rw [if_neg hq] at h0
          exact e2.mem_iff.2 (List.mem_cons_of_mem _ (hall u hu h0))
    · rw [df g, cond_false]
      refine ⟨_, rfl, ⟨⟨by simp only; omega, by simp only; omega⟩, hD, fun j hj => ?_, hQ, hQe, hall⟩, by simp only; omega⟩
      simp only at hj ⊢
      by_cases e : j = n
      · subst e; rw [hv, Int.toNat_natCast]; omega
      · exact hz j (by omega)
  right
  rw [df hi, cond_false]
  refine mapE ?_
  have h0 : St0 ss D := by
    intro s hsm
    obtain ⟨k, hk, e⟩ := nsAt_mem hsm
    rw [← e]; exact hz k (by omega)
  refine loop_spec (fun s : List Qe × List Int => QInv N G cs ss s.2 s.1 (fun _ _ => False)) _ (fun s => 2 * pot s.2 + s.1.length) (fun s hI => ?_) (Q, D) ⟨hD, h0, hQ, hQe, fun u v hu hv hm g0 => Or.inr (Or.inl (hall u hu g0))⟩
  clear hall hQe hQ hz hDl hD h0 i0 i1 hi
  clear D i Q
  obtain ⟨Q, D⟩ := s
  obtain ⟨hD, h0, hQ, hQe, hed⟩ := hI
  simp only at hD h0 hQ hQe hed
  have hDl := hD.1
  try dsimp only
  by_cases hq0 : 0 < (Q.length : Int)
  rotate_left
  · right
    rw [df hq0, cond_false]
    refine ⟨D, rfl, hD, h0, fun u v hu hv hm g0 => ?_⟩
    have : Q = [] := List.length_eq_zero_iff.1 (by omega)
    rcases hed u v hu hv hm g0 with e | e | e
    · exact e
    · rw [this] at e; simp at e
    · exact absurd e (fun e => e)
  left
  rw [dt hq0, cond_true]
  obtain ⟨⟨Q', x, nI⟩, e1, e2⟩ := pop_ok Q (by intro e; rw [e] at hq0; simp at hq0) (by omega)
  rw [e1]
  simp only [Option.bind_some] at e2 ⊢
  have hql := e2.length_eq
  simp only [List.length_cons] at hql
  have htop := hQe (x, nI) (e2.mem_iff.1 (by simp))
  simp only at htop
  obtain ⟨n, rfl⟩ : ∃ n : Nat, nI = (n : Int) := ⟨nI.toNat, by omega⟩
  rw [Int.toNat_natCast] at htop
  have hn : n < N := by omega
  have bn := hD.bound hG hn
  rw [gin_nat (by omega), nsAt_get (show n < D.length by omega)]
  simp only [Option.bind_some]
  by_cases g1 : nsAt D n < x
  · rw [dt g1, cond_true]
    refine ⟨_, rfl, ⟨hD, h0, by simp only; omega, fun e he => hQe e (e2.mem_iff.1 (List.mem_cons_of_mem _ he)), fun u v hu hv hm g0 => ?_⟩, by simp only; omega⟩
    rcases hed u v hu hv hm g0 with e | e | e
    · exact Or.inl e
    · rcases List.mem_cons.1 (e2.mem_iff.2 e) with e3 | e3
      · simp only [Prod.mk.injEq] at e3
        have : u = n := by omega
        subst this
        simp only at g0; omega
      · exact Or.inr (Or.inl e3)
    · exact Or.inr (Or.inr e)
  rw [df g1, cond_false]
  have hx : nsAt D n = x := by omega
  have hRn := hR.2 n hn
  have hRl := hR.1
  rw [gAt_get (by omega)]
  simp only [Option.bind_some]
  refine stepE (A := fun s' : List Qe × List Int => QInv N G cs ss s'.2 s'.1 (fun _ _ => False) ∧ 2 * pot s'.2 + s'.1.length < 2 * pot D + Q.length) ?_
  refine loop_spec (fun s : Int × (List Int × List Qe) => (0 ≤ s.1 ∧ s.1 ≤ (gAt R n).length) ∧ nsAt s.2.1 n = x ∧ 2 * pot s.2.1 + s.2.2.length < 2 * pot D + Q.length ∧ QInv N G cs ss s.2.1 s.2.2 (fun u v => u = n ∧ (v : Int) ∉ (gAt R n).take s.1.toNat)) _ (fun s => ((gAt R n).length - s.1).toNat) (fun s hI => ?_) (0, (D, Q')) ⟨⟨by simp, by simp⟩, hx, by simp only; omega, hD, h0, by simp only; omega, fun e he => hQe e (e2.mem_iff.1 (List.mem_cons_of_mem _ he)), fun u v hu hv hm g0 => ?_⟩
  rotate_left
  · rcases hed u v hu hv hm g0 with e | e | e
    · exact Or.inl e
    · rcases List.mem_cons.1 (e2.mem_iff.2 e) with e3 | e3
      · simp only [Prod.mk.injEq] at e3
        have : u = n := by omega
        exact Or.inr (Or.inr ⟨this, by simp⟩)
      · exact Or.inr (Or.inl e3)
    · exact absurd e (fun e => e)
  obtain ⟨j, E, T⟩ := s
  obtain ⟨⟨j0, j1⟩, hEx, hpot, hE, hE0, hT, hTe, hed2⟩ := hI
  simp only at j0 j1 hEx hpot hE hE0 hT hTe hed2
  have hEl := hE.1
  try dsimp only
  by_cases hj : j < ((gAt R n).length : Int)
  rotate_left
  · right
    rw [df hj, cond_false]
    refine ⟨_, rfl, _, rfl, ⟨hE, hE0, hT, hTe, fun u v hu hv hm g0 => ?_⟩, hpot⟩
    rcases hed2 u v hu hv hm g0 with e | e | ⟨e, e'⟩
    · exact Or.inl e
    · exact Or.inr (Or.inl e)
    · refine absurd ?_ e'
      rw [List.take_of_length_le (by omega)]
      subst e
      exact (hRn.2.2 v hv).2 hm
  left
  obtain ⟨k, rfl⟩ : ∃ k : Nat, j = (k : Int) := ⟨j.toNat, by omega⟩
  have hk : k < (gAt R n).length := by omega
  have hmem : nsAt (gAt R n) k ∈ gAt R n := by rw [← ns_at hk]; exact List.getElem_mem hk
  have hvr := hRn.2.1 _ hmem
  obtain ⟨v, hv⟩ : ∃ v : Nat, nsAt (gAt R n) k = (v : Int) := ⟨(nsAt (gAt R n) k).toNat, by omega⟩
  rw [hv] at hmem
  have hvN : v < N := by omega
  have hedge : (n : Int) ∈ gAt G v := (hRn.2.2 v hvN).1 hmem
  have hcv := hc.2 v hvN
  have bv := hE.bound hG hvN
  have hsucc : ((k : Int) + 1).toNat = k + 1 := by omega
  have hkk : ((k : Int)).toNat = k := by omega
  rw [hkk] at hed2
  rw [dt hj, cond_true, nsAt_get hk]
  simp only [Option.bind_some]
  rw [hv, nsAt_get (show v < cs.length by omega)]
  simp only [Option.bind_some]
  rw [gin_nat (by omega), nsAt_get (show v < E.length by omega), wrap_ok (z := x + nsAt cs v) (by omega), wrap_ok (z := (k : Int) + 1) (by omega)]
  simp only [Option.bind_some]
  have act : (nsAt E v < 0 ∨ x + nsAt cs v < nsAt E v) → ∃ T', impl_pushQueue (T, (x + nsAt cs v, (v : Int))) = some T' ∧ (((0 ≤ (k : Int) + 1 ∧ (k : Int) + 1 ≤ (gAt R n).length) ∧ nsAt (E.set v (x + nsAt cs v)) n = x ∧ 2 * pot (E.set v (x + nsAt cs v)) + T'.length < 2 * pot D + Q.length ∧ QInv N G cs ss (E.set v (x + nsAt cs v)) T' (fun u v => u = n ∧ (v : Int) ∉ (gAt R n).take ((k : Int) + 1).toNat)) ∧ ((gAt R n).length - ((k : Int) + 1)).toNat < ((gAt R n).length - (k : Int)).toNat) := by
    intro hlt
    have r := relax hG hc hE hn hvN hedge (by omega) (by rw [hEx]; exact hlt)
    rw [hEx] at r
    obtain ⟨r1, r2, r3⟩ := r
    obtain ⟨T', p1, p2⟩ := push_ok T (x + nsAt cs v, (v : Int)) (by omega)
    have hTl := p2.length_eq
    simp only [List.length_cons] at hTl
    have hset := fun w => nsAt_set (D := E) (k := v) (x + nsAt cs v) w (by omega)
    refine ⟨T', p1, ⟨⟨by omega, by omega⟩, by rw [hset, if_neg r3]; exact hEx, by omega, r1, relax_keep hE0 (by omega) (by omega) hlt, by omega, fun e he => ?_, fun u w hu hw hm g0 => ?_⟩, by omega⟩
    · rw [hset]
      rcases List.mem_cons.1 (p2.mem_iff.1 he) with e3 | e3
      · subst e3
        refine ⟨⟨by simp only; omega, by simp only; omega⟩, ?_⟩
        rw [if_pos (Int.toNat_natCast v)]
        exact ⟨by omega, by simp⟩
      · have := hTe e e3
        refine ⟨this.1, ?_⟩
        split
        · rename_i hq
          rw [hq] at this
          omega
        · exact this.2
    · rw [hset] at g0
      rw [hset]
      by_cases qu : u = v
      · subst qu
        rw [if_pos rfl]
        exact Or.inr (Or.inl (p2.mem_iff.2 (by simp)))
      · rw [if_neg qu] at g0 ⊢
        have hw1 : Sat cs E u w → Sat cs (E.set v (x + nsAt cs v)) u w := by
          intro e
          unfold Sat at *
          rw [hset, hset, if_neg qu]
          split
          · rename_i hq; subst hq; omega
          · exact e
        rcases hed2 u w hu hw hm g0 with e | e | ⟨e, e'⟩
        · exact Or.inl (hw1 e)
        · exact Or.inr (Or.inl (p2.mem_iff.2 (List.mem_cons_of_mem _ e)))
        · by_cases qw : w = v
          · left
            subst qw e
            unfold Sat
            rw [hset, hset, if_neg qu, if_pos rfl, hEx]
            omega
          · right; right
            refine ⟨e, ?_⟩
            rw [hsucc, take_at hk, hv]
            intro q
            rcases List.mem_append.1 q with q | q
            · exact e' q
            · have := List.mem_singleton.1 q; omega
  by_cases g2 : nsAt E v = -1
  · rw [dt g2, cond_true, gset_nat]
    obtain ⟨T', p1, p2⟩ := act (Or.inl (by omega))
    rw [p1]
    exact ⟨_, rfl, p2⟩
  rw [df g2, cond_false]
  by_cases g3 : x + nsAt cs v < nsAt E v
  · rw [dt g3, cond_true, gset_nat]
    obtain ⟨T', p1, p2⟩ := act (Or.inr g3)
    rw [p1]
    exact ⟨_, rfl, p2⟩
  rw [df g3, cond_false]
  refine ⟨_, rfl, ⟨⟨by simp only; omega, by simp only; omega⟩, hEx, hpot, hE, hE0, hT, hTe, fun u w hu hw hm g0 => ?_⟩, by simp only; omega⟩
  rcases hed2 u w hu hw hm g0 with e | e | ⟨e, e'⟩
  · exact Or.inl e
  · exact Or.inr (Or.inl e)
  · by_cases qw : w = v
    · left
      simp only
      rw [qw, e]
      exact ⟨by omega, by rw [hEx]; omega⟩
    · right; right
      refine ⟨e, ?_⟩
      simp only
      rw [hsucc, take_at hk, hv]
      intro q
      rcases List.mem_append.1 q with q | q
      · exact e' q
      · have := List.mem_singleton.1 q; omega

theorem srcs_range {d : Dev} {n x : Int} (h : x ∈ srcsP d n) : 0 ≤ x ∧ x < nodesN d := by
  have hr := srcs_rn h
  have hd := hr.1
  have hT := hd.2.2.1
  have hp := per_le hd
  obtain ⟨⟨ht0, ht1⟩, _, _⟩ := node_tp hd hr.2.1 hr.2.2.1
  unfold srcsP at h
  split at h
  rotate_left
  · simp at h
  rcases mem_insL.1 h with h | h
  · simp at h
  unfold rawN at h
  rcases List.mem_append.1 h with h | h
  · have hw := (wn_le (s := nTile d n) (dir := 0) (trk := 0) hd ht1 (by omega) (by omega) ht0)
    unfold s0P at h
    split at h
    · have : x = nTile d n * per d + 5 ∨ x = nTile d n * per d + 6 := by
        unfold outsP at h
        split at h <;> simp at h <;> omega
      omega
    · simp at h
  · obtain ⟨dir, q0, h⟩ := mem_fm.1 h
    obtain ⟨t2, q2, h⟩ := mem_fm.1 h
    obtain ⟨i2, h⟩ := mem_candP h
    exact (oneP_dec hd q0 (by omega) h).2.2.2.2.2
def dG (d : Dev) : List (List Int) := (List.range (nodesN d).toNat).map fun (v : Nat) => srcsP d (v : Int)
theorem dG_len (d : Dev) : (dG d).length = (nodesN d).toNat := by simp [dG]
theorem dG_at (d : Dev) {v : Nat} (h : v < (nodesN d).toNat) : gAt (dG d) v = srcsP d (v : Int) := by
  unfold gAt dG
  rw [List.getD, List.getElem?_map, List.getElem?_range h]; rfl
theorem dG_ok {d : Dev} (h : DOk d) : GrOk (nodesN d).toNat (dG d) := by
  have hn := nodesN_le h
  refine ⟨dG_len d, by omega, fun v hv => ?_⟩
  rw [dG_at d hv]
  refine ⟨Nat.le_trans (srcsP_len d _) (by decide), fun x hx => ?_⟩
  have := srcs_range hx
  omega
theorem map_range_succ (f : Nat → List Int) (n : Nat) : (List.range (n + 1)).map f = (List.range n).map f ++ [f n] := by
  rw [List.range_succ, List.map_append]; rfl
theorem graph_spec {d : Dev} (h : DOk d) : spec_l33Graph d = some (dG d) := by
  have hn := nodesN_le h
  unfold spec_l33Graph dG
  refine loop_upto (nodesN d).toNat (fun k => ((k : Int), (List.range k).map fun (v : Nat) => srcsP d (v : Int))) (fun k hk => ?_) ?_
  · try dsimp only
    rw [routeNodes_spec, if_pos h]
    simp only [Option.bind_some]
    rw [dt (show (k : Int) < nodesN d by omega), cond_true, srcs_spec]
    simp only [Option.bind_some]
    rw [gapp_some (by simp; omega) (by simp; omega)]
    simp only [Option.bind_some]
    rw [wrap_ok (by omega), map_range_succ]; rfl
  · try dsimp only
    rw [routeNodes_spec, if_pos h]
    simp only [Option.bind_some]
    rw [df (by omega), cond_false]; rfl
theorem allSources_impl {d : Dev} (h : DOk d) : impl_allSources d = some (dG d) := by
  have hn := nodesN_le h
  unfold impl_allSources
  rw [routeNodes_impl h]
  simp only [Option.bind_some]
  obtain ⟨N, hN⟩ : ∃ N : Nat, nodesN d = (N : Int) := ⟨(nodesN d).toNat, by omega⟩
  rw [hN, gmake_nat (by omega) (by omega)]
  simp only [Option.bind_some, List.length_replicate]
  have hdG : dG d = (List.range N).map fun (v : Nat) => srcsP d (v : Int) := by unfold dG; rw [hN]; rfl
  rw [hdG]
  have e0 : ((0 : Int), List.replicate N ([] : List Int)) = (fun k : Nat => ((k : Int), ((List.range k).map fun (v : Nat) => srcsP d (v : Int)) ++ List.replicate (N - k) [])) 0 := by simp
  rw [e0]
  refine loop_upto N (fun k => ((k : Int), ((List.range k).map fun (v : Nat) => srcsP d (v : Int)) ++ List.replicate (N - k) [])) (fun k hk => ?_) ?_
  · have hl : (((List.range k).map fun (v : Nat) => srcsP d (v : Int)) ++ List.replicate (N - k) ([] : List Int)).length = N := by simp; omega
    try dsimp only
    rw [dt (show (k : Int) < (N : Int) by omega), cond_true, srcs_impl]
    simp only [Option.bind_some]
    rw [hl, gin_nat hk, gget_nat (show k < _ by rw [hl]; exact hk)]
    simp only [Option.bind_some]
    rw [wrap_ok (by omega), gset_nat, List.set_append_right _ _ (by simp)]
    have e1 : k - ((List.range k).map fun (v : Nat) => srcsP d (v : Int)).length = 0 := by simp
    obtain ⟨m, hm⟩ : ∃ m, N - k = m + 1 := ⟨N - k - 1, by omega⟩
    have e2 : N - (k + 1) = m := by omega
    rw [e1, hm, List.replicate_succ, List.set_cons_zero, e2, map_range_succ]
    simp
  · try dsimp only
    rw [df (show ¬ (N : Int) < (N : Int) by omega), cond_false]
    simp
theorem gAt_set {R : List (List Int)} {k : Nat} (x : List Int) (j : Nat) (h : k < R.length) : gAt (R.set k x) j = if j = k then x else gAt R j := by
  unfold gAt
  rw [List.getD_eq_getElem?_getD, List.getD_eq_getElem?_getD]
  by_cases e : j = k
  · rw [if_pos e, e, List.getElem?_set_self h]; rfl
  · rw [if_neg e, List.getElem?_set_ne (by omega)]
theorem graph_impl {d : Dev} (h : DOk d) : ∃ R, impl_graphOf d = some (dG d, R) ∧ RevOk (nodesN d).toNat (dG d) R := by
  have hn := nodesN_le h
  unfold impl_graphOf
  rw [allSources_impl h, routeNodes_impl h]
  simp only [Option.bind_some]
  have hGr := dG_ok h
  have hGl := dG_len d
  have hat := fun v hv => dG_at d (v := v) hv
  obtain ⟨N, hN⟩ : ∃ N : Nat, nodesN d = (N : Int) := ⟨(nodesN d).toNat, by omega⟩
  have hNN : (nodesN d).toNat = N := by omega
  rw [hNN] at hGr hGl hat ⊢
  rw [hN, gmake_nat (by omega) (by omega)]
  simp only [Option.bind_some]
  have key : ∀ r : Option (List (List Int) × List (List Int)), (∃ o, r = some o ∧ ∃ R, o = (dG d, R) ∧ RevOk N (dG d) R) → ∃ R, r = some (dG d, R) ∧ RevOk N (dG d) R := by
    rintro r ⟨o, h1, R, h2, h3⟩
    exact ⟨R, by rw [h1, h2], h3⟩
  refine key _ ?_
  refine loop_spec (fun s : Int × List (List Int) => (0 ≤ s.1 ∧ s.1 ≤ (N : Int)) ∧ s.2.length = N ∧ ∀ u, u < N → ((gAt s.2 u).length : Int) ≤ s.1 * 34 ∧ (∀ x, x ∈ gAt s.2 u ↔ ∃ v : Nat, x = (v : Int) ∧ (v : Int) < s.1 ∧ v < N ∧ (u : Int) ∈ gAt (dG d) v)) _ (fun s => (N - s.1).toNat) (fun s hI => ?_) (0, List.replicate N ([] : List Int)) ⟨⟨by simp, by simp⟩, by simp, fun u hu => ?_⟩
  rotate_left
  · have e : gAt (List.replicate N ([] : List Int)) u = [] := by unfold gAt; rw [List.getD, List.getElem?_replicate, if_pos hu]; rfl
    simp only
    rw [e]
    refine ⟨by simp, fun x => ⟨fun q => by simp at q, ?_⟩⟩
    rintro ⟨v, _, q, _⟩
    omega
  obtain ⟨i, R⟩ := s
  obtain ⟨⟨i0, i1⟩, hRl, hR⟩ := hI
  simp only at i0 i1 hRl hR
  try dsimp only
  by_cases hi : i < ((dG d).length : Int)
  rotate_left
  · right
    rw [df hi, cond_false]
    refine ⟨_, rfl, R, rfl, hRl, fun u hu => ?_⟩
    have := hR u hu
    refine ⟨by omega, fun x hx => ?_, fun v hv => ?_⟩
    · obtain ⟨v, e1, e2, e3, _⟩ := (this.2 x).1 hx
      omega
    · rw [this.2]
      constructor
      · rintro ⟨w, e1, _, _, e2⟩
        have : w = v := by omega
        subst this; exact e2
      · intro e; exact ⟨v, rfl, by omega, hv, e⟩
  left
  obtain ⟨k, rfl⟩ : ∃ k : Nat, i = (k : Int) := ⟨i.toNat, by omega⟩
  have hk : k < N := by omega
  rw [dt hi, cond_true, gin_nat (by omega), gAt_get (by omega)]
  simp only [Option.bind_some]
  have hgk := hGr.2.2 k hk
  have hgl : (gAt (dG d) k).length ≤ 34 := by rw [hat k hk]; exact srcsP_len d _
  refine stepE (A := fun s' : Int × List (List Int) => ((0 ≤ s'.1 ∧ s'.1 ≤ (N : Int)) ∧ s'.2.length = N ∧ ∀ u, u < N → ((gAt s'.2 u).length : Int) ≤ s'.1 * 34 ∧ (∀ x, x ∈ gAt s'.2 u ↔ ∃ v : Nat, x = (v : Int) ∧ (v : Int) < s'.1 ∧ v < N ∧ (u : Int) ∈ gAt (dG d) v)) ∧ (N - s'.1).toNat < (N - (k : Int)).toNat) ?_
  refine loop_spec (fun s : Int × List (List Int) => (0 ≤ s.1 ∧ s.1 ≤ ((gAt (dG d) k).length : Int)) ∧ s.2.length = N ∧ ∀ u, u < N → ((gAt s.2 u).length : Int) ≤ (k : Int) * 34 + s.1 ∧ (∀ x, x ∈ gAt s.2 u ↔ (∃ v : Nat, x = (v : Int) ∧ v < k ∧ v < N ∧ (u : Int) ∈ gAt (dG d) v) ∨ (x = (k : Int) ∧ (u : Int) ∈ (gAt (dG d) k).take s.1.toNat))) _ (fun s => ((gAt (dG d) k).length - s.1).toNat) (fun s hI => ?_) (0, R) ⟨⟨by simp, by simp⟩, hRl, fun u hu => ?_⟩
  rotate_left
  · have := hR u hu
    refine ⟨by simp only; omega, fun x => ?_⟩
    simp only
    rw [this.2 x]
    constructor
    · rintro ⟨v, e1, e2, e3, e4⟩
      exact Or.inl ⟨v, e1, by omega, e3, e4⟩
    · rintro (⟨v, e1, e2, e3, e4⟩ | ⟨_, e⟩)
      · exact ⟨v, e1, by omega, e3, e4⟩
      · simp at e
  clear hR hRl
  clear R
  obtain ⟨j, R⟩ := s
  obtain ⟨⟨j0, j1⟩, hRl, hR⟩ := hI
  simp only at j0 j1 hRl hR
  try dsimp only
  by_cases hj : j < ((gAt (dG d) k).length : Int)
  rotate_left
  · right
    rw [df hj, cond_false, wrap_ok (z := (k : Int) + 1) (by omega)]
    refine ⟨_, rfl, _, rfl, ⟨⟨by simp only; omega, by simp only; omega⟩, hRl, fun u hu => ?_⟩, by simp only; omega⟩
    have := hR u hu
    refine ⟨by simp only; omega, fun x => ?_⟩
    simp only
    rw [this.2 x, List.take_of_length_le (by omega)]
    constructor
    · rintro (⟨v, e1, e2, e3, e4⟩ | ⟨e1, e2⟩)
      · exact ⟨v, e1, by omega, e3, e4⟩
      · exact ⟨k, e1, by omega, hk, e2⟩
    · rintro ⟨v, e1, e2, e3, e4⟩
      by_cases q : v = k
      · subst q; exact Or.inr ⟨e1, e4⟩
      · exact Or.inl ⟨v, e1, by omega, e3, e4⟩
  left
  obtain ⟨n, rfl⟩ : ∃ n : Nat, j = (n : Int) := ⟨j.toNat, by omega⟩
  have hnl : n < (gAt (dG d) k).length := by omega
  have hmem : nsAt (gAt (dG d) k) n ∈ gAt (dG d) k := by rw [← ns_at hnl]; exact List.getElem_mem hnl
  have hur := hgk.2 _ hmem
  obtain ⟨w, hw⟩ : ∃ w : Nat, nsAt (gAt (dG d) k) n = (w : Int) := ⟨(nsAt (gAt (dG d) k) n).toNat, by omega⟩
  have hwN : w < N := by omega
  have hRw := hR w hwN
  rw [dt hj, cond_true, nsAt_get hnl]
  simp only [Option.bind_some]
  rw [hw, gin_nat (by omega), gAt_get (by omega)]
  simp only [Option.bind_some]
  rw [gapp_ok (by simp only [List.length_cons, List.length_nil]; omega)]
  simp only [Option.bind_some]
  rw [gset_nat, wrap_ok (z := (n : Int) + 1) (by omega)]
  have hsucc : ((n : Int) + 1).toNat = n + 1 := by omega
  refine ⟨_, rfl, ⟨⟨by simp only; omega, by simp only; omega⟩, by simp only [List.length_set]; exact hRl, fun u hu => ?_⟩, by simp only; omega⟩
  simp only
  rw [gAt_set _ _ (by omega), hsucc, take_at hnl, hw]
  have hRu := hR u hu
  rw [Int.toNat_natCast] at hRu hRw
  by_cases q : u = w
  · subst q
    rw [if_pos rfl]
    refine ⟨by simp only [List.length_append, List.length_cons, List.length_nil]; omega, fun x => ?_⟩
    rw [List.mem_append, hRu.2 x, List.mem_singleton, List.mem_append]
    constructor
    · rintro ((e | e) | e)
      · exact Or.inl e
      · exact Or.inr ⟨e.1, Or.inl e.2⟩
      · exact Or.inr ⟨e, Or.inr (by simp)⟩
    · rintro (e | ⟨e1, e2⟩)
      · exact Or.inl (Or.inl e)
      · exact Or.inr e1
  · rw [if_neg q]
    refine ⟨by omega, fun x => ?_⟩
    rw [hRu.2 x, List.mem_append, List.mem_singleton]
    constructor
    · rintro (e | e)
      · exact Or.inl e
      · exact Or.inr ⟨e.1, Or.inl e.2⟩
    · rintro (e | ⟨e1, e2 | e2⟩)
      · exact Or.inl e
      · exact Or.inr ⟨e1, e2⟩
      · omega
end Go.Pf

