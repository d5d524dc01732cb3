/-
  Own work. A connection's nodes, plainly.
-/
import Derived.Test.YtjpkedhcbnklmaaDvd
import Derived.Test.YtjpkedhcbnklmaaHlp
namespace Go.Pf
open Go Go.Pu
set_option linter.unusedVariables false

def outPinP (d : Dev) (t k : Int) : Int := if 0 ≤ k ∧ k < outP (tk d t) then t * per d + 5 + k else -1
def inPinP (d : Dev) (t k : Int) : Int := if 0 ≤ k ∧ k < inP (tk d t) then t * per d + k else -1
theorem outP_le (k : Int) : 0 ≤ outP k ∧ outP k ≤ 2 ∧ (0 < outP k → 0 ≤ k) := by
  unfold outP; split; omega; split; omega; split <;> omega
theorem inP_le (k : Int) : 0 ≤ inP k ∧ inP k ≤ 5 ∧ (0 < inP k → 0 ≤ k) := by
  unfold inP; split; omega; split; omega; split <;> omega
theorem tk_in {d : Dev} {t : Int} (h : 0 ≤ tk d t) : DOk d ∧ 0 ≤ t ∧ t < d.1 * d.2.1 ∧ tk d t = tkp d t ∧ (0 ≤ t * per d ∧ t * per d ≤ 828) := by
  have e : tk d t = if DOk d ∧ 0 ≤ t ∧ t < d.1 * d.2.1 then tkp d t else -1 := rfl
  by_cases q : DOk d ∧ 0 ≤ t ∧ t < d.1 * d.2.1
  · rw [if_pos q] at e
    have hm := mul_le36 q.1.1 q.1.2.1
    have hp := per_le q.1
    have h1 : t * per d ≤ 36 * 23 := Int.mul_le_mul (by omega) (by omega) (by omega) (by omega)
    have h2 : 0 ≤ t * per d := Int.mul_nonneg (by omega) (by omega)
    exact ⟨q.1, q.2.1, q.2.2, e, h2, by omega⟩
  · rw [if_neg q] at e; omega
theorem outPin_spec (d : Dev) (t k : Int) (ht : t ≤ 9223372036854775807) : spec_OutPin (d, (t, k)) = some (outPinP d t k) := by
  unfold spec_OutPin outPinP
  have ho := outP_le (tk d t)
  by_cases h0 : k < 0
  · simp only [dt h0, cond_true]; rw [if_neg (by omega)]
  · simp only [df h0, cond_false]
    rw [tk_spec d t ht]
    simp only [Option.bind_some, outPins_spec]
    by_cases h1 : outP (tk d t) ≤ k
    · rw [dt h1, cond_true, if_neg (by omega)]
    · obtain ⟨hd, _, _, _, q0, q1⟩ := tk_in (d := d) (t := t) (ho.2.2 (by omega))
      rw [df h1, cond_false, per_spec hd, if_pos ⟨by omega, by omega⟩]
      simp only [Option.bind_some]
      rw [wrap_ok (z := t * per d) (by omega), wrap_ok (z := t * per d + 5) (by omega), wrap_ok (by omega)]
theorem outPin_impl (d : Dev) (t k : Int) (ht : t ≤ 9223372036854775807) : impl_OutPin (d, (t, k)) = some (outPinP d t k) := by
  unfold impl_OutPin outPinP
  have ho := outP_le (tk d t)
  dsimp only
  rw [tileOk_impl]
  simp only [Option.bind_some]
  by_cases h : DOk d ∧ 0 ≤ t ∧ t < d.1 * d.2.1
  · have e : tk d t = tkp d t := by unfold tk; rw [if_pos h]
    have hk := tkp_ge d t
    obtain ⟨hd, _, _, _, q0, q1⟩ := tk_in (d := d) (t := t) (by omega)
    rw [dt h, tileKind_impl d t hd h.2.1 ht]
    simp only [Bool.not_true, cond_false, Option.bind_some]
    rw [outPins_impl]
    simp only [Option.bind_some]
    rw [← e, wrap_ok (z := outP (tk d t) - 1) (by omega), inR_impl]
    simp only [Option.bind_some]
    by_cases h1 : 0 ≤ k ∧ k < outP (tk d t)
    · rw [dt (by omega), if_pos h1, per_impl hd]
      simp only [Bool.not_true, cond_false, Option.bind_some]
      rw [wrap_ok (z := t * per d) (by omega), wrap_ok (z := t * per d + 5) (by omega), wrap_ok (by omega)]
    · rw [df (by omega), if_neg h1]; rfl
  · have e : tk d t = -1 := by unfold tk; rw [if_neg h]
    rw [df h, if_neg (by rw [e]; unfold outP; simp)]; rfl
theorem inPin_spec (d : Dev) (t k : Int) (ht : t ≤ 9223372036854775807) : spec_InPin (d, (t, k)) = some (inPinP d t k) := by
  unfold spec_InPin inPinP
  have ho := inP_le (tk d t)
  by_cases h0 : k < 0
  · simp only [dt h0, cond_true]; rw [if_neg (by omega)]
  · simp only [df h0, cond_false]
    rw [tk_spec d t ht]
    simp only [Option.bind_some, inPins_spec]
    by_cases h1 : inP (tk d t) ≤ k
    · rw [dt h1, cond_true, if_neg (by omega)]
    · obtain ⟨hd, _, _, _, q0, q1⟩ := tk_in (d := d) (t := t) (ho.2.2 (by omega))
      rw [df h1, cond_false, per_spec hd, if_pos ⟨by omega, by omega⟩]
      simp only [Option.bind_some]
      rw [wrap_ok (z := t * per d) (by omega), wrap_ok (by omega)]
theorem inPin_impl (d : Dev) (t k : Int) (ht : t ≤ 9223372036854775807) : impl_InPin (d, (t, k)) = some (inPinP d t k) := by
  unfold impl_InPin inPinP
  have ho := inP_le (tk d t)
  dsimp only
  rw [tileOk_impl]
  simp only [Option.bind_some]
  by_cases h : DOk d ∧ 0 ≤ t ∧ t < d.1 * d.2.1
  · have e : tk d t = tkp d t := by unfold tk; rw [if_pos h]
    have hk := tkp_ge d t
    obtain ⟨hd, _, _, _, q0, q1⟩ := tk_in (d := d) (t := t) (by omega)
    rw [dt h, tileKind_impl d t hd h.2.1 ht]
    simp only [Bool.not_true, cond_false, Option.bind_some]
    rw [inPins_impl]
    simp only [Option.bind_some]
    rw [← e, wrap_ok (z := inP (tk d t) - 1) (by omega), inR_impl]
    simp only [Option.bind_some]
    by_cases h1 : 0 ≤ k ∧ k < inP (tk d t)
    · rw [dt (by omega), if_pos h1, per_impl hd]
      simp only [Bool.not_true, cond_false, Option.bind_some]
      rw [wrap_ok (z := t * per d) (by omega), wrap_ok (by omega)]
    · rw [df (by omega), if_neg h1]; rfl
  · have e : tk d t = -1 := by unfold tk; rw [if_neg h]
    rw [df h, if_neg (by rw [e]; unfold inP; simp)]; rfl

def psAt (ps : List Int) (i : Int) : Int := ps.getD i.toNat 0
def PsR (ps : List Int) : Prop := ∀ p ∈ ps, p ≤ 9223372036854775807
theorem psAt_le {ps : List Int} (h : PsR ps) (i : Int) : psAt ps i ≤ 9223372036854775807 := by
  unfold psAt
  by_cases hi : i.toNat < ps.length
  · rw [List.getD, List.getElem?_eq_getElem hi]; exact h _ (List.getElem_mem hi)
  · rw [List.getD, List.getElem?_eq_none (by omega)]; simp
def srcP (d : Dev) (ps : List Int) (p : Pin) : Int := if 0 ≤ p.1 ∧ p.1 < (ps.length : Int) then outPinP d (psAt ps p.1) p.2 else -1
theorem src_spec (d : Dev) (ps : List Int) (c : Conn) (hp : PsR ps) : spec_SourceNode (d, (ps, c)) = some (srcP d ps c.2.1) := by
  unfold spec_SourceNode srcP
  dsimp only
  by_cases h0 : c.2.1.1 < 0
  · rw [dt h0, cond_true, if_neg (by omega)]
  rw [df h0, cond_false]
  by_cases h1 : (ps.length : Int) ≤ c.2.1.1
  · rw [dt h1, cond_true, if_neg (by omega)]
  rw [df h1, cond_false, gget_some (by omega) (by omega), if_pos (by omega)]
  simp only [Option.bind_some]
  exact (congrArg (fun o => o.bind fun v5 => some v5) (outPin_spec d (psAt ps c.2.1.1) c.2.1.2 (psAt_le hp _))).trans rfl
theorem src_impl (d : Dev) (ps : List Int) (c : Conn) (hp : PsR ps) (hl : ps.length ≤ 1048576) : impl_SourceNode (d, (ps, c)) = some (srcP d ps c.2.1) := by
  unfold impl_SourceNode srcP
  dsimp only
  rw [wrap_ok (by omega), inR_impl]
  simp only [Option.bind_some]
  by_cases h : 0 ≤ c.2.1.1 ∧ c.2.1.1 < (ps.length : Int)
  · rw [dt (by omega), if_pos h, gget_some (by omega) (by omega)]
    simp only [Bool.not_true, cond_false, Option.bind_some]
    exact (congrArg (fun o => o.bind fun v5 => some v5) (outPin_impl d (psAt ps c.2.1.1) c.2.1.2 (psAt_le hp _))).trans rfl
  · rw [df (by omega), if_neg h]; rfl

def snkP (d : Dev) (ps : List Int) (p : Pin) : Int := if 0 ≤ p.1 ∧ p.1 < (ps.length : Int) then inPinP d (psAt ps p.1) p.2 else -1
def snksP (d : Dev) (ps : List Int) (ss : List Pin) : List Int := if (ss.all fun p => decide (0 ≤ snkP d ps p)) = true then ss.map (snkP d ps) else []
theorem snks_len (d : Dev) (ps : List Int) (ss : List Pin) : (snksP d ps ss).length ≤ ss.length := by
  unfold snksP; split <;> simp
theorem snks_spec (d : Dev) (ps : List Int) (c : Conn) (hp : PsR ps) (hl : c.2.2.length ≤ 1048576) : spec_SinkNodes (d, (ps, c)) = some (snksP d ps c.2.2) := by
  unfold spec_SinkNodes snksP
  obtain ⟨c1, c2, ss⟩ := c
  simp only at hl
  dsimp only
  refine Eq.trans (loop_all ss.length (fun k : Nat => ((k : Int), (ss.take k).map (snkP d ps))) (fun k => if h : k < ss.length then decide (0 ≤ snkP d ps ss[k]) else true) [] (ss.map (snkP d ps)) (fun k hk hok => ?_) (fun k hk hok => ?_) ?_) ?_
  · rw [dif_pos hk] at hok
    have q := of_decide_eq_true hok
    dsimp only
    rw [dt (by omega), cond_true, gget_nat hk, take_succ' ss k hk, List.map_append]
    simp only [Option.bind_some]
    unfold snkP at q ⊢
    by_cases h : 0 ≤ (ss[k]).1 ∧ (ss[k]).1 < (ps.length : Int)
    · rw [if_pos h] at q
      rw [df (by omega), cond_false, df (by omega), cond_false, gget_some h.1 h.2]
      simp only [Option.bind_some]
      have e := inPin_spec d (psAt ps (ss[k]).1) (ss[k]).2 (psAt_le hp _)
      unfold psAt at e q ⊢
      rw [e]
      simp only [Option.bind_some]
      rw [df (by omega), cond_false, gapp_some (by simp; omega) (by simp; omega)]
      simp only [Option.bind_some, List.map_cons, List.map_nil]
      rw [wrap_ok (by omega), if_pos h]; rfl
    · rw [if_neg h] at q; omega
  · rw [dif_pos hk] at hok
    have q := of_decide_eq_false hok
    dsimp only
    rw [dt (by omega), cond_true, gget_nat hk]
    simp only [Option.bind_some]
    unfold snkP at q
    by_cases h0 : (ss[k]).1 < 0
    · rw [dt h0]; rfl
    rw [df h0, cond_false]
    by_cases h1 : (ps.length : Int) ≤ (ss[k]).1
    · rw [dt h1]; rfl
    rw [if_pos (by omega)] at q
    rw [df h1, cond_false, gget_some (by omega) (by omega)]
    simp only [Option.bind_some]
    have e := inPin_spec d (psAt ps (ss[k]).1) (ss[k]).2 (psAt_le hp _)
    unfold psAt at e q
    rw [e]
    simp only [Option.bind_some]
    rw [dt (by omega)]; rfl
  · dsimp only
    rw [df (by omega), cond_false, List.take_length]; rfl
  · rw [all_range_list ss (fun p => decide (0 ≤ snkP d ps p)) _ (fun k hk => by rw [dif_pos hk])]
theorem snks_impl (d : Dev) (ps : List Int) (c : Conn) (hp : PsR ps) (hpl : ps.length ≤ 1048576) (hl : c.2.2.length ≤ 1048576) : impl_SinkNodes (d, (ps, c)) = some (snksP d ps c.2.2) := by
  unfold impl_SinkNodes snksP
  obtain ⟨c1, c2, ss⟩ := c
  simp only at hl
  dsimp only
  refine Eq.trans (loop_all ss.length (fun k : Nat => ((ss.take k).map (snkP d ps), (k : Int))) (fun k => if h : k < ss.length then decide (0 ≤ snkP d ps ss[k]) else true) [] (ss.map (snkP d ps)) (fun k hk hok => ?_) (fun k hk hok => ?_) ?_) ?_
  · rw [dif_pos hk] at hok
    have q := of_decide_eq_true hok
    dsimp only
    rw [dt (by omega), cond_true, gget_nat hk, take_succ' ss k hk, List.map_append]
    simp only [Option.bind_some]
    unfold snkP at q ⊢
    by_cases h : 0 ≤ (ss[k]).1 ∧ (ss[k]).1 < (ps.length : Int)
    · rw [if_pos h] at q
      rw [wrap_ok (z := (ps.length : Int) - 1) (by omega), inR_impl]
      simp only [Option.bind_some]
      rw [dt (by omega), gget_some h.1 h.2]
      simp only [Bool.not_true, cond_false, Option.bind_some]
      have e := inPin_impl d (psAt ps (ss[k]).1) (ss[k]).2 (psAt_le hp _)
      unfold psAt at e q ⊢
      rw [e]
      simp only [Option.bind_some]
      rw [df (by omega), cond_false, gapp_some (by simp; omega) (by simp; omega)]
      simp only [Option.bind_some, List.map_cons, List.map_nil]
      rw [wrap_ok (by omega), if_pos h]; rfl
    · rw [if_neg h] at q; omega
  · rw [dif_pos hk] at hok
    have q := of_decide_eq_false hok
    dsimp only
    rw [dt (by omega), cond_true, gget_nat hk]
    simp only [Option.bind_some]
    unfold snkP at q
    rw [wrap_ok (z := (ps.length : Int) - 1) (by omega), inR_impl]
    simp only [Option.bind_some]
    by_cases h : 0 ≤ (ss[k]).1 ∧ (ss[k]).1 < (ps.length : Int)
    · rw [if_pos h] at q
      rw [dt (by omega), gget_some (by omega) (by omega)]
      simp only [Bool.not_true, cond_false, Option.bind_some]
      have e := inPin_impl d (psAt ps (ss[k]).1) (ss[k]).2 (psAt_le hp _)
      unfold psAt at e q
      rw [e]
      simp only [Option.bind_some]
      rw [dt (by omega)]; rfl
    · rw [df (by omega)]; rfl
  · dsimp only
    rw [df (by omega), cond_false, List.take_length]; rfl
  · rw [all_range_list ss (fun p => decide (0 ≤ snkP d ps p)) _ (fun k hk => by rw [dif_pos hk])]

theorem markPinS_ok (xs : List Pin) (k : Int) (hk : 0 ≤ k) (hk2 : k ≤ 1099511627776) (h : xs.length ≤ 1048576) : ∃ r, laws_markPinS (xs, k) = some r ∧ 0 ≤ r.1 ∧ r.1 ≤ k + 2 * xs.length := by
  unfold laws_markPinS
  dsimp only
  refine loop_spec (fun s : Int × (Int × List Pin) => 0 ≤ s.2.1 ∧ s.2.1 ≤ xs.length ∧ s.1 = k + 2 * s.2.1 ∧ s.2.2.length = xs.length) (fun r : Int × List Pin => 0 ≤ r.1 ∧ r.1 ≤ k + 2 * xs.length) (fun s => (xs.length - s.2.1).toNat) (fun s hs => ?_) (k, 0, xs) ⟨by simp, by simp, by simp, by simp⟩
  obtain ⟨m, i, acc⟩ := s
  obtain ⟨i0, i1, im, i2⟩ := hs
  simp only at i0 i1 im i2
  subst im
  dsimp only
  by_cases hi : i < (xs.length : Int)
  · left
    have hs1 : ∀ z : Pin, (gset acc i z).length = acc.length := fun z => by unfold gset; rw [List.length_set]
    rw [dt (by omega), cond_true, gin_some i0 (by omega), gget_some i0 (by omega)]
    simp only [Option.bind_some]
    rw [gin_some i0 (by rw [hs1]; omega), gget_some i0 (by rw [hs1]; omega)]
    simp only [Option.bind_some]
    rw [wrap_ok (z := k + 2 * i + 1) (by omega), wrap_ok (z := k + 2 * i + 1 + 1) (by omega), wrap_ok (z := i + 1) (by omega)]
    refine ⟨_, rfl, ⟨by simp only; omega, by simp only; omega, by simp only; omega, ?_⟩, by simp only; omega⟩
    simp only
    unfold gset
    rw [List.length_set, List.length_set]; exact i2
  · right
    rw [df (by omega), cond_false]
    exact ⟨_, rfl, by simp only; omega, by simp only; omega⟩
end Go.Pf

