/-
  Own work. Cheapest distances in a graph, plainly: what they are, and that they are unique; loops with results that are only described; the program's queue.
-/
import Derived.Test.YtjpkedhcbnklmaaRok
namespace Go.Pf
open Go Go.Pu
set_option linter.unusedVariables false

theorem loop_uptoE {σ ω : Type} {f : σ → Option (σ ⊕ ω)} (n : Nat) (S : Nat → σ) (Q : ω → Prop) (h1 : ∀ k, k < n → f (S k) = some (.inl (S (k + 1)))) (h2 : ∃ o, f (S n) = some (.inr o) ∧ Q o) : ∃ o, loop f (S 0) = some o ∧ Q o := by
  obtain ⟨o, h2, h3⟩ := h2
  exact ⟨o, loop_upto n S h1 h2, h3⟩
theorem mapE {α β : Type} {X : Option β} {Q : β → Prop} (h : ∃ o, X = some o ∧ Q o) : ∃ o, Option.map (Sum.inr : β → α ⊕ β) X = some (.inr o) ∧ Q o := by
  obtain ⟨o, h1, h2⟩ := h
  exact ⟨o, by rw [h1]; rfl, h2⟩
theorem stepE {α β : Type} {X : Option (α ⊕ β)} {A : α → Prop} (h : ∃ o, X = some o ∧ ∃ s, o = .inl s ∧ A s) : ∃ s, X = some (.inl s) ∧ A s := by
  obtain ⟨o, h1, s, h2, h3⟩ := h
  exact ⟨s, by rw [h1, h2], h3⟩
theorem joinE {α β : Type} {X : Option (α ⊕ β)} {k : α → Option β} {Q : β → Prop} (A : α → Prop) (h : ∃ o, X = some o ∧ ∃ a, o = .inl a ∧ A a) (h2 : ∀ a, A a → ∃ p, k a = some p ∧ Q p) : ∃ p, joinO X k = some p ∧ Q p := by
  obtain ⟨o, h1, a, e, ha⟩ := h
  subst e
  rw [h1]; exact h2 a ha

def psum (p : Int → Nat) : List Int → Nat
  | [] => 0
  | a :: r => p a + psum p r
theorem psum_set (p : Int → Nat) : ∀ (D : List Int) (k : Nat) (x : Int), k < D.length → psum p (D.set k x) + p (nsAt D k) = psum p D + p x
  | [], k, x, h => by simp at h
  | a :: r, 0, x, _ => by
    have e : nsAt (a :: r) 0 = a := rfl
    rw [e]
    show p x + psum p r + p a = p a + psum p r + p x
    omega
  | a :: r, k + 1, x, h => by
    have ih := psum_set p r k x (by simp only [List.length_cons] at h; omega)
    have e : nsAt (a :: r) (k + 1) = nsAt r k := rfl
    rw [e]
    show p a + psum p (r.set k x) + _ = p a + psum p r + p x
    omega
theorem psum_le (p : Int → Nat) (M : Nat) : ∀ (D : List Int), (∀ x ∈ D, p x ≤ M) → psum p D ≤ M * D.length
  | [], _ => by simp [psum]
  | a :: r, h => by
    have ih := psum_le p M r (fun x hx => h x (List.mem_cons_of_mem _ hx))
    have h1 := h a (by simp)
    show p a + psum p r ≤ M * (r.length + 1)
    rw [Nat.mul_add]; omega
theorem nsAt_set {D : List Int} {k : Nat} (x : Int) (j : Nat) (h : k < D.length) : nsAt (D.set k x) j = if j = k then x else nsAt D j := by
  unfold nsAt
  rw [List.getD_eq_getElem?_getD, List.getD_eq_getElem?_getD]
  by_cases e : j = k
  · rw [if_pos e, e, List.getElem?_set_self h]; rfl
  · rw [if_neg e, List.getElem?_set_ne (by omega)]
theorem nsAt_mem {D : List Int} {x : Int} (h : x ∈ D) : ∃ k, k < D.length ∧ nsAt D k = x := by
  obtain ⟨k, hk, rfl⟩ := List.getElem_of_mem h
  exact ⟨k, hk, (ns_at hk).symm⟩
def cnt (D : List Int) : Nat := psum (fun x => if 0 ≤ x then 1 else 0) D
theorem cnt_le (D : List Int) : cnt D ≤ D.length := by
  have := psum_le (fun x => if 0 ≤ x then 1 else 0) 1 D (fun x _ => by split <;> omega)
  unfold cnt; omega
theorem cnt_set {D : List Int} {k : Nat} {x : Int} (h : k < D.length) (hx : 0 ≤ x) : cnt D ≤ cnt (D.set k x) ∧ (nsAt D k < 0 → cnt (D.set k x) = cnt D + 1) := by
  have := psum_set (fun x => if 0 ≤ x then 1 else 0) D k x h
  unfold cnt
  rw [if_pos hx] at this
  refine ⟨?_, fun q => ?_⟩
  · split at this <;> omega
  · rw [if_neg (by omega)] at this; omega
def pw (x : Int) : Nat := if x < 0 then 82800001 else x.toNat
def pot (D : List Int) : Nat := psum pw D

def gAt (G : List (List Int)) (v : Nat) : List Int := G.getD v []
def GrOk (N : Nat) (G : List (List Int)) : Prop := G.length = N ∧ N ≤ 828 ∧ ∀ v, v < N → (gAt G v).length ≤ 828 ∧ ∀ x ∈ gAt G v, 0 ≤ x ∧ x < (N : Int)
def CsOk (N : Nat) (cs : List Int) : Prop := cs.length = N ∧ ∀ v, v < N → 1 ≤ nsAt cs v ∧ nsAt cs v ≤ 100000
def DInv (N : Nat) (G : List (List Int)) (cs ss D : List Int) : Prop :=
  D.length = N ∧ (∀ v, v < N → -1 ≤ nsAt D v ∧ nsAt D v ≤ 100000 * (cnt D : Int)) ∧
  (∀ v, v < N → 0 ≤ nsAt D v → ((v : Int) ∈ ss ∧ nsAt D v = 0) ∨ ∃ u : Nat, u < N ∧ (u : Int) ∈ gAt G v ∧ 0 ≤ nsAt D u ∧ nsAt D u + nsAt cs v ≤ nsAt D v)
def St0 (ss D : List Int) : Prop := ∀ s ∈ ss, nsAt D s.toNat = 0
def Sat (cs D : List Int) (u v : Nat) : Prop := 0 ≤ nsAt D v ∧ nsAt D v ≤ nsAt D u + nsAt cs v
def IsDist (N : Nat) (G : List (List Int)) (cs ss D : List Int) : Prop :=
  DInv N G cs ss D ∧ St0 ss D ∧ ∀ u v : Nat, u < N → v < N → (u : Int) ∈ gAt G v → 0 ≤ nsAt D u → Sat cs D u v
theorem DInv.bound {N : Nat} {G : List (List Int)} {cs ss D : List Int} (hG : GrOk N G) (h : DInv N G cs ss D) {v : Nat} (hv : v < N) : -1 ≤ nsAt D v ∧ nsAt D v ≤ 82800000 := by
  have h1 := h.2.1 v hv
  have h2 := cnt_le D
  have h3 := h.1
  have h4 := hG.2.1
  omega
theorem dist_le {N : Nat} {G : List (List Int)} {cs ss D E : List Int} (hc : CsOk N cs) (hD : IsDist N G cs ss D) (hE : IsDist N G cs ss E) : ∀ (n : Nat) (v : Nat), v < N → nsAt D v = (n : Int) → 0 ≤ nsAt E v ∧ nsAt E v ≤ nsAt D v := by
  intro n
  induction n using Nat.strongRecOn with
  | ind n ih =>
    intro v hv e
    rcases hD.1.2.2 v hv (by omega) with ⟨h1, h2⟩ | ⟨u, hu, hm, h0, h1⟩
    · have := hE.2.1 _ h1
      rw [Int.toNat_natCast] at this
      omega
    · have hcv := hc.2 v hv
      obtain ⟨m, hm2⟩ : ∃ m : Nat, nsAt D u = (m : Int) := ⟨(nsAt D u).toNat, by omega⟩
      have := ih m (by omega) u hu hm2
      have h3 := hE.2.2 u v hu hv hm this.1
      unfold Sat at h3
      omega
theorem dist_uniq {N : Nat} {G : List (List Int)} {cs ss D E : List Int} (hc : CsOk N cs) (hD : IsDist N G cs ss D) (hE : IsDist N G cs ss E) : D = E := by
  have hl1 := hD.1.1
  have hl2 := hE.1.1
  apply List.ext_getElem (by omega)
  intro v h1 h2
  rw [ns_at h1, ns_at h2]
  have b1 := hD.1.2.1 v (by omega)
  have b2 := hE.1.2.1 v (by omega)
  by_cases q : 0 ≤ nsAt D v
  · obtain ⟨m, hm⟩ : ∃ m : Nat, nsAt D v = (m : Int) := ⟨(nsAt D v).toNat, by omega⟩
    have a := dist_le hc hD hE m v (by omega) hm
    obtain ⟨m2, hm2⟩ : ∃ m : Nat, nsAt E v = (m : Int) := ⟨(nsAt E v).toNat, by omega⟩
    have b := dist_le hc hE hD m2 v (by omega) hm2
    omega
  · by_cases q2 : 0 ≤ nsAt E v
    · obtain ⟨m2, hm2⟩ : ∃ m : Nat, nsAt E v = (m : Int) := ⟨(nsAt E v).toNat, by omega⟩
      have b := dist_le hc hE hD m2 v (by omega) hm2
      omega
    · omega
theorem relax {N : Nat} {G : List (List Int)} {cs ss D : List Int} {u v : Nat} (hG : GrOk N G) (hc : CsOk N cs) (h : DInv N G cs ss D) (hu : u < N) (hv : v < N) (he : (u : Int) ∈ gAt G v) (h0 : 0 ≤ nsAt D u) (hlt : nsAt D v < 0 ∨ nsAt D u + nsAt cs v < nsAt D v) :
    DInv N G cs ss (D.set v (nsAt D u + nsAt cs v)) ∧ pot (D.set v (nsAt D u + nsAt cs v)) < pot D ∧ u ≠ v := by
  have hl := h.1
  have hcv := hc.2 v hv
  have hne : u ≠ v := by intro e; subst e; omega
  have hvl : v < D.length := by omega
  have hcs := cnt_set (D := D) (k := v) (x := nsAt D u + nsAt cs v) hvl (by omega)
  have hcl := cnt_le (D.set v (nsAt D u + nsAt cs v))
  rw [List.length_set] at hcl
  have hN := hG.2.1
  have bu := h.2.1 u hu
  have bv := h.2.1 v hv
  have hnew : nsAt D u + nsAt cs v ≤ 100000 * (cnt (D.set v (nsAt D u + nsAt cs v)) : Int) := by
    by_cases q : nsAt D v < 0
    · have := hcs.2 q; omega
    · omega
  refine ⟨⟨by rw [List.length_set]; exact hl, fun w hw => ?_, fun w hw => ?_⟩, ?_, hne⟩
  · rw [nsAt_set _ _ hvl]
    by_cases q : w = v
    · rw [if_pos q]; exact ⟨by omega, hnew⟩
    · rw [if_neg q]
      have := h.2.1 w hw
      omega
  · rw [nsAt_set _ w hvl]
    by_cases q : w = v
    · rw [if_pos q]
      intro _
      right
      refine ⟨u, hu, by rw [q]; exact he, ?_, ?_⟩
      · rw [nsAt_set _ _ hvl, if_neg hne]; exact h0
      · rw [nsAt_set _ _ hvl, if_neg hne, q]; omega
    · rw [if_neg q]
      intro hw0
      rcases h.2.2 w hw hw0 with e | ⟨u', hu', hm, g0, g1⟩
      · exact Or.inl e
      · right
        refine ⟨u', hu', hm, ?_, ?_⟩
        · rw [nsAt_set _ _ hvl]
          split
          · omega
          · exact g0
        · rw [nsAt_set _ _ hvl]
          split
          · rename_i q2; subst q2; omega
          · exact g1
  · have := psum_set pw D v (nsAt D u + nsAt cs v) hvl
    have hp : pw (nsAt D u + nsAt cs v) < pw (nsAt D v) := by
      unfold pw
      rw [if_neg (by omega)]
      split <;> omega
    unfold pot; omega
theorem setStart {N : Nat} {G : List (List Int)} {cs ss D : List Int} {v : Nat} (hG : GrOk N G) (h : DInv N G cs ss D) (hv : v < N) (hs : (v : Int) ∈ ss) :
    DInv N G cs ss (D.set v 0) ∧ pot (D.set v 0) ≤ pot D ∧ (nsAt D v ≠ 0 → pot (D.set v 0) < pot D) := by
  have hl := h.1
  have hvl : v < D.length := by omega
  have hcs := cnt_set (D := D) (k := v) (x := 0) hvl (by omega)
  refine ⟨⟨by rw [List.length_set]; exact hl, fun w hw => ?_, fun w hw => ?_⟩, ?_, ?_⟩
  · rw [nsAt_set _ _ hvl]
    have := h.2.1 w hw
    split <;> omega
  · rw [nsAt_set _ w hvl]
    by_cases q : w = v
    · rw [if_pos q]
      intro _
      left
      rw [q]; exact ⟨hs, rfl⟩
    · rw [if_neg q]
      intro hw0
      rcases h.2.2 w hw hw0 with e | ⟨u', hu', hm, g0, g1⟩
      · exact Or.inl e
      · right
        refine ⟨u', hu', hm, ?_, ?_⟩
        · rw [nsAt_set _ _ hvl]
          split
          · omega
          · exact g0
        · rw [nsAt_set _ _ hvl]
          split
          · rename_i q2; subst q2; omega
          · exact g1
  · have := psum_set pw D v 0 hvl
    have : pw 0 = 0 := rfl
    unfold pot; omega
  · intro q
    have := psum_set pw D v 0 hvl
    have : pw 0 = 0 := rfl
    have hp : 0 < pw (nsAt D v) := by unfold pw; split <;> omega
    unfold pot; omega
theorem nsAt_rep (n : Nat) (x : Int) {k : Nat} (h : k < n) : nsAt (List.replicate n x) k = x := by
  unfold nsAt
  rw [List.getD, List.getElem?_replicate, if_pos h]; rfl
theorem dInit (N : Nat) (G : List (List Int)) (cs ss : List Int) : DInv N G cs ss (List.replicate N (-1)) := by
  refine ⟨by simp, fun v hv => ?_, fun v hv h0 => ?_⟩
  · rw [nsAt_rep _ _ hv]; omega
  · rw [nsAt_rep _ _ hv] at h0; omega
theorem pot_le {N : Nat} {G : List (List Int)} {cs ss D : List Int} (hG : GrOk N G) (h : DInv N G cs ss D) : pot D ≤ 82800001 * 828 := by
  have h1 := psum_le pw 82800001 D (fun x hx => by
    obtain ⟨k, hk, e⟩ := nsAt_mem hx
    have := h.bound hG (v := k) (by have := h.1; omega)
    unfold pw; split <;> omega)
  have h2 := h.1
  have h3 := hG.2.1
  have h4 : 82800001 * D.length ≤ 82800001 * 828 := Nat.mul_le_mul_left _ (by omega)
  unfold pot; omega

abbrev Qe := Int × Int
theorem push_ok (q : List Qe) (x : Qe) (h : q.length ≤ 100000000000) : ∃ o, impl_pushQueue (q, x) = some o ∧ o.Perm (x :: q) := by
  unfold impl_pushQueue
  dsimp only
  rw [gapp_some (by simp only [List.length_cons, List.length_nil]; omega) (by simp only [List.length_cons, List.length_nil]; omega)]
  simp only [Option.bind_some]
  have hlen : (q ++ [x]).length = q.length + 1 := by simp
  have hperm : (q ++ [x]).Perm (x :: q) := by
    have := List.perm_append_comm (l₁ := q) (l₂ := [x])
    exact this
  have hw : wrap .i64 (((q ++ [x]).length : Int) - 1) = (q.length : Int) := by rw [hlen, wrap_ok (by omega)]; omega
  rw [hw]
  generalize q ++ [x] = q0 at *
  refine joinE (fun a => a.Perm (x :: q)) ?_ (fun a ha => ⟨a, rfl, ha⟩)
  refine loop_spec (fun s : Int × List Qe => (0 ≤ s.1 ∧ s.1 < q0.length) ∧ s.2.Perm q0) (fun o => ∃ a : List Qe, o = Sum.inl a ∧ a.Perm (x :: q)) (fun s => s.1.toNat) (fun s hs => ?_) ((q.length : Int), q0) ⟨⟨by simp only; omega, by simp only; omega⟩, List.Perm.refl _⟩
  obtain ⟨i, a⟩ := s
  obtain ⟨⟨i0, i1⟩, hp⟩ := hs
  simp only at i0 i1 hp
  have hal := hp.length_eq
  obtain ⟨n, rfl⟩ : ∃ n : Nat, i = (n : Int) := ⟨i.toNat, by omega⟩
  dsimp only
  by_cases hi : 0 < (n : Int)
  · rw [dt hi, cond_true, wrap_ok (z := (n : Int) - 1) (by omega), gdiv_nn (by omega) (by omega) (by omega)]
    simp only [Option.bind_some]
    have em : ((n : Int) - 1) / 2 = (((n - 1) / 2 : Nat) : Int) := by omega
    have hm : (n - 1) / 2 < a.length := by omega
    have hn : n < a.length := by omega
    rw [em, gin_nat hm, gget_nat hm, gin_nat hn, gget_nat hn]
    simp only [Option.bind_some]
    by_cases g : (a[(n - 1) / 2]).1 ≤ (a[n]).1
    · right
      rw [dt g, cond_true]
      exact ⟨_, rfl, _, rfl, hp.trans hperm⟩
    · left
      rw [df g, cond_false, gset_nat, List.length_set, gin_nat hn, gget_nat (by rw [List.length_set]; exact hn)]
      simp only [Option.bind_some]
      rw [gset_nat]
      refine ⟨_, rfl, ⟨⟨by simp only; omega, by simp only; omega⟩, ?_⟩, by simp only; omega⟩
      simp only
      exact (List.set_set_perm hm hn).trans hp
  · right
    rw [df hi, cond_false]
    exact ⟨_, rfl, _, rfl, hp.trans hperm⟩
theorem pop_ok (q : List Qe) (h : q ≠ []) (hl : q.length ≤ 100000000000) : ∃ o, impl_popQueue q = some o ∧ (o.2 :: o.1).Perm q := by
  unfold impl_popQueue
  have h1 : 0 < q.length := List.length_pos_iff.2 h
  have g0 : gget ((0, 0) : Qe) q 0 = some q[0] := gget_nat h1
  have i0 : gin q.length 0 = some () := gin_nat h1
  have hw : wrap .i64 ((q.length : Int) - 1) = ((q.length - 1 : Nat) : Int) := by rw [wrap_ok (by omega)]; omega
  dsimp only
  rw [i0, g0, hw, gin_nat (by omega), gget_nat (show q.length - 1 < q.length by omega)]
  simp only [Option.bind_some]
  have es : gset q 0 (q[q.length - 1]) = q.set 0 (q[q.length - 1]) := rfl
  rw [es]
  have esl : gslice (q.set 0 (q[q.length - 1])) 0 ((q.length - 1 : Nat) : Int) = some ((q.set 0 (q[q.length - 1])).take (q.length - 1)) := by
    unfold gslice
    rw [if_pos ⟨by omega, by omega, by rw [List.length_set]; omega⟩]
    simp
  rw [esl]
  simp only [Option.bind_some]
  have hperm : (q[0] :: (q.set 0 (q[q.length - 1])).take (q.length - 1)).Perm q := by
    cases q with
    | nil => simp at h1
    | cons a r =>
      cases hr : r.reverse with
      | nil =>
        have : r = [] := by simpa using hr
        subst this
        simp
      | cons z m =>
        have er : r = m.reverse ++ [z] := by
          have := congrArg List.reverse hr
          simpa using this
        subst er
        simp
        have := List.perm_append_comm (l₁ := m.reverse) (l₂ := [z])
        exact this.symm
  have hlen : ((q.set 0 (q[q.length - 1])).take (q.length - 1)).length = q.length - 1 := by simp
  generalize (q.set 0 (q[q.length - 1])).take (q.length - 1) = a0 at *
  clear hw es esl g0 i0
  generalize q[0] = top at *
  generalize hL : q.length - 1 = L at *
  refine joinE (fun a => (top :: a).Perm q) ?_ (fun a ha => ⟨(a, top), rfl, ha⟩)
  refine loop_spec (fun s : Int × List Qe => (0 ≤ s.1 ∧ (s.1 < L ∨ s.1 = 0)) ∧ s.2.Perm a0) (fun o => ∃ a : List Qe, o = Sum.inl a ∧ (top :: a).Perm q) (fun s => (L - s.1).toNat) (fun s hs => ?_) (0, a0) ⟨⟨by simp, by simp⟩, List.Perm.refl _⟩
  obtain ⟨i, a⟩ := s
  obtain ⟨⟨j0, j1⟩, hp⟩ := hs
  simp only at j0 j1 hp
  have hal := hp.length_eq
  have hfin : (top :: a).Perm q := (hp.cons top).trans hperm
  have hpl := hperm.length_eq
  simp only [List.length_cons] at hpl
  obtain ⟨n, rfl⟩ : ∃ n : Nat, i = (n : Int) := ⟨i.toNat, by omega⟩
  dsimp only
  have e2 : wrap .i64 (wrap .i64 (2 * (n : Int)) + 1) = ((2 * n + 1 : Nat) : Int) := by rw [wrap_ok (z := 2 * (n : Int)) (by omega), wrap_ok (by omega)]; omega
  rw [e2]
  by_cases hi : (L : Int) ≤ ((2 * n + 1 : Nat) : Int)
  · right
    rw [dt hi, cond_true]
    exact ⟨_, rfl, _, rfl, hfin⟩
  rw [df hi, cond_false]
  have e3 : wrap .i64 (((2 * n + 1 : Nat) : Int) + 1) = ((2 * n + 2 : Nat) : Int) := by rw [wrap_ok (by omega)]; omega
  rw [e3]
  have hn : n < a.length := by omega
  have hm1 : 2 * n + 1 < a.length := by omega
  have pick : ∃ m : Nat, (m = 2 * n + 1 ∨ m = 2 * n + 2) ∧ m < a.length ∧ (bif decide (((2 * n + 2 : Nat) : Int) < (L : Int)) then (
          (gin (a).length ((2 * n + 2 : Nat) : Int)).bind fun _ =>
          (gget ((0, 0) : Qe) a ((2 * n + 2 : Nat) : Int)).bind fun v20 =>
          (gin (a).length ((2 * n + 1 : Nat) : Int)).bind fun _ =>
          (gget ((0, 0) : Qe) a ((2 * n + 1 : Nat) : Int)).bind fun v22 =>
          let v23 : Bool := decide (v20.1 < v22.1)
          bif v23 then (
            some (.inl ((2 * n + 2 : Nat) : Int))) else
          some (.inl ((2 * n + 1 : Nat) : Int))) else
        some ((.inl ((2 * n + 1 : Nat) : Int)) : Int ⊕ ((Int × List Qe) ⊕ (List Qe ⊕ (List Qe × Qe))))) = some (.inl (m : Int)) := by
    by_cases g : ((2 * n + 2 : Nat) : Int) < (L : Int)
    · have hm2 : 2 * n + 2 < a.length := by omega
      rw [dt g, cond_true, gin_nat hm2, gget_nat hm2, gin_nat hm1, gget_nat hm1]
      simp only [Option.bind_some]
      by_cases g2 : (a[2 * n + 2]).1 < (a[2 * n + 1]).1
      · rw [dt g2]; exact ⟨2 * n + 2, Or.inr rfl, hm2, rfl⟩
      · rw [df g2]; exact ⟨2 * n + 1, Or.inl rfl, hm1, rfl⟩
    · rw [df g]; exact ⟨2 * n + 1, Or.inl rfl, hm1, rfl⟩
  obtain ⟨m, hm, hma, pick⟩ := pick
  dsimp only at pick
  rw [pick, joinO_inl, gin_nat hn, gget_nat hn, gin_nat hma, gget_nat hma]
  simp only [Option.bind_some]
  by_cases g : (a[n]).1 ≤ (a[m]).1
  · right
    rw [dt g, cond_true]
    exact ⟨_, rfl, _, rfl, hfin⟩
  · left
    rw [df g, cond_false, gset_nat, List.length_set, gin_nat hma, gget_nat (by rw [List.length_set]; exact hma)]
    simp only [Option.bind_some]
    rw [gset_nat]
    refine ⟨_, rfl, ⟨⟨by simp only; omega, by simp only; omega⟩, ?_⟩, by simp only; omega⟩
    simp only
    exact (List.set_set_perm hn hma).trans hp
end Go.Pf

