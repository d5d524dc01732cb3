/-
  Own work. Contracts of the functions on timing graphs.
-/
import Derived.Test.YtphdildkhaeimaaLst
import Derived.Test.YtphdildkhaeimaaEvL
namespace Go.Proofs.Ytphdildkhaeimaa
open Go Go.Ev Go.Proofs
set_option linter.unusedVariables false

structure Arc where
  f : Int
  t : Int
  d : Int
  deriving DecidableEq
instance : Inhabited Arc := ⟨⟨0, 0, 0⟩⟩
def encArc (a : Arc) : List T := [.int a.f, .int a.t, .int a.d]
structure TG where
  n : Int
  arcs : List Arc
  deriving DecidableEq
def encTG (g : TG) : List T := [.int g.n, .ro (recs encArc g.arcs)]
theorem arcs_imm (xs : List Arc) : Imm (recs encArc xs) := imm_map _ (fun _ => rfl) xs
@[irreducible] def szl (n : Nat) (left : Int) : Int := if (n : Int) ≤ left then left - n else -1
def arcOf (c : List T) : Arc := ⟨toInt (c.getD 0 .nil), toInt (c.getD 1 .nil), toInt (c.getD 2 .nil)⟩
theorem recs_of {n : Nat} {e : TypeId} {els : List (List T)} (hi : intsT Try.prog e 3 = true) (h : ∀ c ∈ els, Has Try.prog n e c) : ∃ xs : List Arc, els = recs encArc xs := by
  refine ⟨els.map arcOf, ?_⟩
  unfold recs
  rw [List.map_map]
  refine (List.map_id' els).symm.trans (List.map_congr_left fun c hc => ?_)
  obtain ⟨zs, rfl, hl, _⟩ := has_ints hi (h c hc)
  match zs, hl with
  | [a, b, c], _ => rfl
theorem tg_of {t ts e : TypeId} {r : R} (h : HasR Try.prog t r) (ht : flds Try.prog t [3, ts] = true) (hts : elemOf' Try.prog ts = some e) (he : intsT Try.prog e 3 = true) : ∃ g : TG, r = .agg (encTG g) := by
  obtain ⟨xs, rfl, hl, hf⟩ := hasR_flds h ht
  match xs, hl with
  | [a, b], _ =>
    obtain ⟨z, hz, _⟩ := has_int (by kernel_rfl) (hf 0 _ a rfl rfl)
    obtain ⟨els, hb, _, hc⟩ := has_slice hts (hf 1 _ b rfl rfl)
    obtain ⟨ars, rfl⟩ := recs_of he hc
    simp at hz hb
    exact ⟨⟨z, ars⟩, by rw [hz, hb]; rfl⟩
set_option maxRecDepth 20000 in
set_option maxHeartbeats 1000000 in
theorem l_szArcS (xs : List Arc) (left : Int) (hl : 0 ≤ left ∧ left ≤ 1048576) : CallSpec Try.prog 43 [.one (.ro (recs encArc xs)), .one (.int left)] (.t (.int (szl xs.length left))) := by
  refine spec1 (fun _ => []) Try.func43 (by kernel_rfl) rfl Try.ntmps43 rfl Try.results43 rfl ?_
  intro B0 w0 S0
  have e1 := recs_len encArc xs
  refine Ev.len_le 0 rfl (fun e3 => ?_)
  repeat' (first
    | refine Ev.seq ?_
    | refine Ev.region ?_
    | refine Ev.skip ?_
    | refine EvO.nil ?_
    | (apply EvO.moveT; exact rfl; exact rfl; exact rfl)
    | (apply EvO.moveAl; exact rfl; exact rfl; exact rfl)
    | (apply EvO.moveAgg; exact rfl; exact rfl; exact rfl)
    | (apply EvO.assignOwn; exact rfl; exact rfl; exact rfl; exact rfl; exact rfl)
    | (apply EvO.assignT; exact rfl; exact rfl; exact rfl)
    | (apply EvO.assignAl; exact rfl; exact rfl; exact rfl)
    | (apply EvO.assignAgg; exact rfl; exact rfl; exact rfl)
    | (apply EvO.sub; exact rfl; exact rfl; omega; exact rfl; exact rfl)
    | (apply EvO.lss; exact rfl; exact rfl; exact rfl; exact rfl)
    | (apply EvO.lenRo; exact rfl; kernel_rfl; exact rfl; exact rfl)
    | (apply EvO.lenOwn; exact rfl; exact rfl; kernel_rfl; exact rfl; exact rfl)
    | (apply EvO.lenNil; exact rfl; kernel_rfl; exact rfl; exact rfl)
    | (apply Ev.condT; exact rfl)
    | (apply Ev.condF; exact rfl)
    | (apply Ev.cond; exact rfl; all_goals (intro hh; first | replace hh := of_decide_eq_true hh | replace hh := of_decide_eq_false hh | skip))
    | (apply EvO.move; exact rfl; exact rfl)
    | (apply EvO.assign; exact rfl; exact rfl)
    | refine Ev.ret ?_)
  all_goals (refine pvi ?_; unfold szl; split <;> omega)
set_option maxRecDepth 20000 in
set_option maxHeartbeats 1000000 in
theorem l_szTimingGraph (g : TG) (left : Int) (hl : 0 ≤ left ∧ left ≤ 1048576) : CallSpec Try.prog 22 [.agg (encTG g), .one (.int left)] (.t (.int (szl g.arcs.length left))) := by
  refine spec1 (fun _ => []) Try.func22 (by kernel_rfl) rfl Try.ntmps22 rfl Try.results22 rfl ?_
  intro B0 w0 S0
  repeat' (first
    | refine Ev.seq ?_
    | refine Ev.region ?_
    | refine Ev.skip ?_
    | refine EvO.nil ?_
    | (apply EvO.moveT; exact rfl; exact rfl; exact rfl)
    | (apply EvO.moveAl; exact rfl; exact rfl; exact rfl)
    | (apply EvO.moveAgg; exact rfl; exact rfl; exact rfl)
    | (apply EvO.assignOwn; exact rfl; exact rfl; exact rfl; exact rfl; exact rfl)
    | (apply EvO.assignT; exact rfl; exact rfl; exact rfl)
    | (apply EvO.assignAl; exact rfl; exact rfl; exact rfl)
    | (apply EvO.assignAgg; exact rfl; exact rfl; exact rfl)
    | (apply EvO.lss; exact rfl; exact rfl; exact rfl; exact rfl)
    | (apply EvO.loadI (t := 37); exact rfl; exact rfl; omega; omega; kernel_rfl; exact rfl; exact rfl)
    | (apply EvO.loadOwn (t := 37); exact rfl; exact rfl; exact rfl; exact rfl; exact rfl; kernel_rfl; exact rfl; exact rfl)
    | (apply EvO.loadBox (t := 37); exact rfl; exact rfl; exact rfl; exact rfl; kernel_rfl; exact rfl; exact rfl)
    | (apply EvO.loadRo (t := 37); exact rfl; exact rfl; kernel_rfl; exact rfl; exact rfl)
    | (apply EvO.fldBox; exact rfl; exact rfl; ((with_reducible first | exact fl_39_1)); exact rfl; exact rfl; exact rfl)
    | (apply EvO.fldAddr; exact rfl; ((with_reducible first | exact fl_39_1)); exact rfl; exact rfl)
    | (apply EvO.fldRo; exact rfl; ((with_reducible first | exact fl_39_1)); exact rfl; exact rfl)
    | (apply EvO.boxAgg; exact rfl; kernel_rfl; exact rfl; exact rfl; exact rfl)
    | (apply EvO.call; exact (l_szArcS _ _ hl); exact rfl; exact rfl; exact rfl)
    | (apply Ev.condT; exact rfl)
    | (apply Ev.condF; exact rfl)
    | (apply Ev.cond; exact rfl; all_goals (intro hh; first | replace hh := of_decide_eq_true hh | replace hh := of_decide_eq_false hh | skip))
    | (apply EvO.move; exact rfl; exact rfl)
    | (apply EvO.assign; exact rfl; exact rfl)
    | refine Ev.ret ?_)
  all_goals (refine pvi ?_; first | rfl | (unfold szl at *; split at * <;> omega))
set_option maxRecDepth 20000 in
set_option maxHeartbeats 1000000 in
theorem l_toArc (a : Arc) : CallSpec Try.prog 46 [.agg (encArc a)] (.agg (encArc a)) := by
  refine spec1box (fun _ => []) Try.func46 (by kernel_rfl) rfl Try.ntmps46 rfl Try.results46 (by kernel_rfl) rfl ?_
  intro B0 w0 S0
  repeat' (first
    | refine Ev.seq ?_
    | refine Ev.region ?_
    | refine Ev.skip ?_
    | refine EvO.nil ?_
    | (apply EvO.loadI (t := 3); exact rfl; exact rfl; omega; omega; kernel_rfl; exact rfl; exact rfl)
    | (apply EvO.loadOwn (t := 3); exact rfl; exact rfl; exact rfl; exact rfl; exact rfl; kernel_rfl; exact rfl; exact rfl)
    | (apply EvO.loadBoxAgg (t := 55); exact rfl; exact rfl; exact rfl; kernel_rfl; exact rfl; exact rfl; exact rfl)
    | (apply EvO.loadBox (t := 3); exact rfl; exact rfl; exact rfl; exact rfl; kernel_rfl; exact rfl; exact rfl)
    | (apply EvO.loadRo (t := 3); exact rfl; exact rfl; kernel_rfl; exact rfl; exact rfl)
    | (apply EvO.loadRoAll (t := 55); exact rfl; kernel_rfl; exact rfl; exact rfl; exact rfl)
    | (apply EvO.fldBox; exact rfl; exact rfl; ((with_reducible first | exact fl_55_0 | exact fl_55_1 | exact fl_55_2 | exact fl_59_0 | exact fl_59_1 | exact fl_59_2)); exact rfl; exact rfl; exact rfl)
    | (apply EvO.fldAddr; exact rfl; ((with_reducible first | exact fl_55_0 | exact fl_55_1 | exact fl_55_2 | exact fl_59_0 | exact fl_59_1 | exact fl_59_2)); exact rfl; exact rfl)
    | (apply EvO.fldRo; exact rfl; ((with_reducible first | exact fl_55_0 | exact fl_55_1 | exact fl_55_2 | exact fl_59_0 | exact fl_59_1 | exact fl_59_2)); exact rfl; exact rfl)
    | (apply EvO.boxAgg; exact rfl; kernel_rfl; exact rfl; exact rfl; exact rfl)
    | (apply EvO.storeI (t := 3); exact rfl; exact rfl; exact rfl; omega; omega; kernel_rfl; exact rfl; exact rfl)
    | (apply EvO.store (t := 3); exact rfl; exact rfl; exact rfl; exact rfl; exact rfl; kernel_rfl; exact rfl; kernel_rfl)
    | (apply EvO.storeBoxAgg (t := 55); exact rfl; exact rfl; exact rfl; exact rfl; kernel_rfl; exact rfl; exact rfl; kernel_rfl)
    | (apply EvO.alloc; ((with_reducible first | exact zr_55)); kernel_rfl; exact rfl; exact rfl; exact rfl)
    | refine Ev.ret ?_)
  all_goals exact ⟨_, rfl⟩
set_option maxRecDepth 20000 in
set_option maxHeartbeats 1000000 in
theorem l_eqArc (a b : Arc) : CallSpec Try.prog 47 [.agg (encArc a), .agg (encArc b)] (.t (.bool (decide (a = b)))) := by
  refine spec1 (fun _ => []) Try.func47 (by kernel_rfl) rfl Try.ntmps47 rfl Try.results47 rfl ?_
  intro B0 w0 S0
  repeat' (first
    | refine Ev.seq ?_
    | refine Ev.region ?_
    | refine Ev.skip ?_
    | refine EvO.nil ?_
    | (apply EvO.assignOwn; exact rfl; exact rfl; exact rfl; exact rfl; exact rfl)
    | (apply EvO.assignT; exact rfl; exact rfl; exact rfl)
    | (apply EvO.assignAl; exact rfl; exact rfl; exact rfl)
    | (apply EvO.assignAgg; exact rfl; exact rfl; exact rfl)
    | (apply EvO.neq; exact rfl; exact rfl; exact rfl; exact rfl)
    | (apply EvO.neqBs; exact rfl; exact rfl; kernel_rfl; exact rfl; exact rfl)
    | (apply EvO.neqB; exact rfl; exact rfl; kernel_rfl; exact rfl; exact rfl)
    | (apply EvO.loadI (t := 3); exact rfl; exact rfl; omega; omega; kernel_rfl; exact rfl; exact rfl)
    | (apply EvO.loadOwn (t := 3); exact rfl; exact rfl; exact rfl; exact rfl; exact rfl; kernel_rfl; exact rfl; exact rfl)
    | (apply EvO.loadBox (t := 3); exact rfl; exact rfl; exact rfl; exact rfl; kernel_rfl; exact rfl; exact rfl)
    | (apply EvO.loadRo (t := 3); exact rfl; exact rfl; kernel_rfl; exact rfl; exact rfl)
    | (apply EvO.fldBox; exact rfl; exact rfl; ((with_reducible first | exact fl_55_0 | exact fl_55_1 | exact fl_55_2)); exact rfl; exact rfl; exact rfl)
    | (apply EvO.fldAddr; exact rfl; ((with_reducible first | exact fl_55_0 | exact fl_55_1 | exact fl_55_2)); exact rfl; exact rfl)
    | (apply EvO.fldRo; exact rfl; ((with_reducible first | exact fl_55_0 | exact fl_55_1 | exact fl_55_2)); exact rfl; exact rfl)
    | (apply EvO.boxAgg; exact rfl; kernel_rfl; exact rfl; exact rfl; exact rfl)
    | (apply Ev.condT; exact rfl)
    | (apply Ev.condF; exact rfl)
    | (apply Ev.cond; exact rfl; all_goals (intro hh; first | replace hh := of_decide_eq_true hh | replace hh := of_decide_eq_false hh | skip))
    | (apply EvO.assign; exact rfl; exact rfl)
    | refine Ev.ret ?_)
  all_goals (refine pvb ?_; cases a; cases b; simp at *; simp [*])
set_option maxRecDepth 20000 in
set_option maxHeartbeats 1000000 in
theorem l_toArcS (xs : List Arc) (hx : xs.length ≤ 1048576) : CallSpec Try.prog 44 [.one (.ro (recs encArc xs))] (.t (.own false 55 (recs encArc xs))) := by
  refine spec1 (fun _ => []) Try.func44 (by kernel_rfl) rfl Try.ntmps44 rfl Try.results44 rfl ?_
  intro B0 w0 S0
  have e1 := recs_len encArc xs
  repeat' (first
    | refine Ev.seq ?_
    | refine Ev.block ?_
    | refine Ev.region ?_
    | refine Ev.skip ?_
    | refine Ev.exit ?_
    | refine EvO.nil ?_
    | (apply EvO.moveT; exact rfl; exact rfl; exact rfl)
    | (apply EvO.moveAl; exact rfl; exact rfl; exact rfl)
    | (apply EvO.moveAgg; exact rfl; exact rfl; exact rfl)
    | (apply EvO.assignOwn; exact rfl; exact rfl; exact rfl; exact rfl; exact rfl)
    | (apply EvO.assignT; exact rfl; exact rfl; exact rfl)
    | (apply EvO.assignAl; exact rfl; exact rfl; exact rfl)
    | (apply EvO.assignAgg; exact rfl; exact rfl; exact rfl)
    | (apply EvO.add; exact rfl; exact rfl; omega; exact rfl; exact rfl)
    | (apply EvO.lss; exact rfl; exact rfl; exact rfl; exact rfl)
    | (apply EvO.loadBoxAgg (t := 59); exact rfl; exact rfl; exact rfl; kernel_rfl; exact rfl; exact rfl; exact rfl)
    | (apply EvO.loadRoAll (t := 59); exact rfl; kernel_rfl; exact rfl; exact rfl; exact rfl)
    | (apply EvO.idxRoI; exact rfl; exact rfl; omega; omega; ((with_reducible first | exact es_37 | exact es_42)); exact rfl; exact rfl)
    | (apply EvO.idxRo; exact rfl; exact rfl; omega; (first | assumption | exact rfl | exact recs_get (by omega) (by omega)); exact rfl; ((with_reducible first | exact es_37 | exact es_42)); exact rfl; exact rfl)
    | (apply EvO.idxOwn; exact rfl; exact rfl; exact rfl; omega; (first | omega | (simp <;> omega)); ((with_reducible first | exact el_37 | exact el_42)); exact rfl; exact rfl)
    | (apply EvO.makeI; exact rfl; exact rfl; ((with_reducible first | exact el_37 | exact el_42)); ((with_reducible first | exact zr_55 | exact zr_59)); ((with_reducible first | exact sz_55 | exact sz_59)); kernel_rfl; omega; exact rfl; exact rfl)
    | (apply EvO.storeBoxAgg (t := 55); exact rfl; exact rfl; exact rfl; exact rfl; kernel_rfl; exact rfl; exact rfl; kernel_rfl)
    | (apply EvO.lenRo; exact rfl; kernel_rfl; exact rfl; exact rfl)
    | (apply EvO.lenOwn; exact rfl; exact rfl; kernel_rfl; exact rfl; exact rfl)
    | (apply EvO.lenNil; exact rfl; kernel_rfl; exact rfl; exact rfl)
    | apply EvO.makeR (enc := encArc) (a0 := ⟨0, 0, 0⟩) (b := 24); exact rfl; exact rfl; ((with_reducible first | exact el_37 | exact el_42)); kernel_rfl; kernel_rfl; exact rfl; kernel_rfl; exact rfl; omega; exact rfl; exact rfl
    | (apply Ev.condT; exact rfl)
    | (apply Ev.condF; exact rfl)
    | (apply Ev.cond; exact rfl; all_goals (intro hh; first | replace hh := of_decide_eq_true hh | replace hh := of_decide_eq_false hh | skip))
    | (apply EvO.move; exact rfl; exact rfl)
    | (apply EvO.assign; exact rfl; exact rfl)
    | refine Ev.ret ?_)
  all_goals first | (exfalso; omega) | skip
  refine Ev.loop (fun n fr => ∃ (k : Int) (ys : List Arc), fr 0 = .t (.ro (recs encArc xs)) ∧ fr 3 = .t (.own false 55 (recs encArc ys)) ∧ fr 4 = .t (.int k) ∧ 0 ≤ k ∧ k + n = xs.length ∧ ys.length = xs.length ∧ ∀ j : Int, 0 ≤ j → j < k → getr ys j = getr xs j) xs.length ⟨0, List.replicate (recs encArc xs).length ⟨0, 0, 0⟩, rfl, rfl, rfl, by omega, by omega, by simp [e1], by omega⟩ ?_
  rintro n fr ⟨k, ys, h0, h3, h4, hk, hn, hl, hp⟩
  have e2 := recs_len encArc ys
  refine Ev.know 0 h0 (Ev.know 3 h3 (Ev.know 4 h4 ?_))
  repeat' (first
    | refine Ev.seq ?_
    | refine Ev.block ?_
    | refine Ev.region ?_
    | refine Ev.skip ?_
    | refine Ev.exit ?_
    | refine EvO.nil ?_
    | (apply EvO.moveT; exact rfl; exact rfl; exact rfl)
    | (apply EvO.moveAl; exact rfl; exact rfl; exact rfl)
    | (apply EvO.moveAgg; exact rfl; exact rfl; exact rfl)
    | (apply EvO.assignOwn; exact rfl; exact rfl; exact rfl; exact rfl; exact rfl)
    | (apply EvO.assignT; exact rfl; exact rfl; exact rfl)
    | (apply EvO.assignAl; exact rfl; exact rfl; exact rfl)
    | (apply EvO.assignAgg; exact rfl; exact rfl; exact rfl)
    | (apply EvO.add; exact rfl; exact rfl; omega; exact rfl; exact rfl)
    | (apply EvO.lss; exact rfl; exact rfl; exact rfl; exact rfl)
    | (apply EvO.loadBoxAgg (t := 59); exact rfl; exact rfl; exact rfl; kernel_rfl; exact rfl; exact rfl; exact rfl)
    | (apply EvO.loadRoAll (t := 59); exact rfl; kernel_rfl; exact rfl; exact rfl; exact rfl)
    | (apply EvO.idxRoR (enc := encArc); exact rfl; exact rfl; omega; omega; ((with_reducible first | exact es_37 | exact es_42)); exact rfl; exact rfl; exact rfl)
    | (apply EvO.storeR (t := 55) (enc := encArc); exact rfl; exact rfl; exact rfl; omega; omega; exact rfl; kernel_rfl; exact rfl; exact rfl; exact rfl)
    | (apply EvO.idxRoI; exact rfl; exact rfl; omega; omega; ((with_reducible first | exact es_37 | exact es_42)); exact rfl; exact rfl)
    | (apply EvO.idxRo; exact rfl; exact rfl; omega; (first | assumption | exact rfl | exact recs_get (by omega) (by omega)); exact rfl; ((with_reducible first | exact es_37 | exact es_42)); exact rfl; exact rfl)
    | (apply EvO.idxOwn; exact rfl; exact rfl; exact rfl; omega; (first | omega | (simp <;> omega)); ((with_reducible first | exact el_37 | exact el_42)); exact rfl; exact rfl)
    | (apply EvO.makeI; exact rfl; exact rfl; ((with_reducible first | exact el_37 | exact el_42)); ((with_reducible first | exact zr_55 | exact zr_59)); ((with_reducible first | exact sz_55 | exact sz_59)); kernel_rfl; omega; exact rfl; exact rfl)
    | (apply EvO.storeBoxAgg (t := 55); exact rfl; exact rfl; exact rfl; exact rfl; kernel_rfl; exact rfl; exact rfl; kernel_rfl)
    | (apply EvO.lenRo; exact rfl; kernel_rfl; exact rfl; exact rfl)
    | (apply EvO.lenOwn; exact rfl; exact rfl; kernel_rfl; exact rfl; exact rfl)
    | (apply EvO.lenNil; exact rfl; kernel_rfl; exact rfl; exact rfl)
    | (apply EvO.call; exact (l_toArc (getr xs k)); exact rfl; exact rfl; exact rfl)
    | (apply Ev.condT; exact rfl)
    | (apply Ev.condF; exact rfl)
    | (apply Ev.cond; exact rfl; all_goals (intro hh; first | replace hh := of_decide_eq_true hh | replace hh := of_decide_eq_false hh | skip))
    | (apply EvO.move; exact rfl; exact rfl)
    | (apply EvO.assign; exact rfl; exact rfl)
    | refine Ev.ret ?_)
  · refine ⟨n - 1, by omega, k + 1, setr ys k (getr xs k), rfl, rfl, rfl, by omega, by omega, by rw [setr_len]; exact hl, fun j j0 j1 => ?_⟩
    by_cases hj : j = k
    · subst hj; exact getr_setr_eq j0 (by omega)
    · rw [getr_setr_ne hk j0 hj]; exact hp j j0 (by omega)
  · have he : ys = xs := getr_ext (by omega) (fun j j0 j1 => hp j j0 (by omega))
    subst he
    rfl
theorem l_toArcSr (xs : List Arc) (hx : xs.length ≤ 1048576) : CallSpec Try.prog 44 [.one (.ro (recs encArc xs))] (.t (.ro (recs encArc xs))) := (l_toArcS xs hx).shut (arcs_imm xs)
set_option maxRecDepth 20000 in
set_option maxHeartbeats 1000000 in
theorem l_toTimingGraph (g : TG) (hx : g.arcs.length ≤ 1048576) : CallSpec Try.prog 24 [.agg (encTG g)] (.agg (encTG g)) := by
  refine spec1box (fun _ => []) Try.func24 (by kernel_rfl) rfl Try.ntmps24 rfl Try.results24 (by kernel_rfl) rfl ?_
  intro B0 w0 S0
  repeat' (first
    | refine Ev.seq ?_
    | refine Ev.region ?_
    | refine Ev.skip ?_
    | refine EvO.nil ?_
    | (apply EvO.loadI (t := 3); exact rfl; exact rfl; omega; omega; kernel_rfl; exact rfl; exact rfl)
    | (apply EvO.loadI (t := 37); exact rfl; exact rfl; omega; omega; kernel_rfl; exact rfl; exact rfl)
    | (apply EvO.loadOwn (t := 3); exact rfl; exact rfl; exact rfl; exact rfl; exact rfl; kernel_rfl; exact rfl; exact rfl)
    | (apply EvO.loadOwn (t := 37); exact rfl; exact rfl; exact rfl; exact rfl; exact rfl; kernel_rfl; exact rfl; exact rfl)
    | (apply EvO.loadBoxAgg (t := 44); exact rfl; exact rfl; exact rfl; kernel_rfl; exact rfl; exact rfl; exact rfl)
    | (apply EvO.loadBox (t := 3); exact rfl; exact rfl; exact rfl; exact rfl; kernel_rfl; exact rfl; exact rfl)
    | (apply EvO.loadBox (t := 37); exact rfl; exact rfl; exact rfl; exact rfl; kernel_rfl; exact rfl; exact rfl)
    | (apply EvO.loadRo (t := 3); exact rfl; exact rfl; kernel_rfl; exact rfl; exact rfl)
    | (apply EvO.loadRo (t := 37); exact rfl; exact rfl; kernel_rfl; exact rfl; exact rfl)
    | (apply EvO.loadRoAll (t := 44); exact rfl; kernel_rfl; exact rfl; exact rfl; exact rfl)
    | (apply EvO.fldBox; exact rfl; exact rfl; ((with_reducible first | exact fl_39_0 | exact fl_39_1 | exact fl_44_0 | exact fl_44_1)); exact rfl; exact rfl; exact rfl)
    | (apply EvO.fldAddr; exact rfl; ((with_reducible first | exact fl_39_0 | exact fl_39_1 | exact fl_44_0 | exact fl_44_1)); exact rfl; exact rfl)
    | (apply EvO.fldRo; exact rfl; ((with_reducible first | exact fl_39_0 | exact fl_39_1 | exact fl_44_0 | exact fl_44_1)); exact rfl; exact rfl)
    | (apply EvO.boxAgg; exact rfl; kernel_rfl; exact rfl; exact rfl; exact rfl)
    | (apply EvO.storeI (t := 3); exact rfl; exact rfl; exact rfl; omega; omega; kernel_rfl; exact rfl; exact rfl)
    | (apply EvO.storeI (t := 42); exact rfl; exact rfl; exact rfl; omega; omega; kernel_rfl; exact rfl; exact rfl)
    | (apply EvO.store (t := 3); exact rfl; exact rfl; exact rfl; exact rfl; exact rfl; kernel_rfl; exact rfl; kernel_rfl)
    | (apply EvO.store (t := 42); exact rfl; exact rfl; exact rfl; exact rfl; exact rfl; kernel_rfl; exact rfl; kernel_rfl)
    | (apply EvO.storeBoxAgg (t := 44); exact rfl; exact rfl; exact rfl; exact rfl; kernel_rfl; exact rfl; exact rfl; kernel_rfl)
    | (apply EvO.alloc; ((with_reducible first | exact zr_44)); kernel_rfl; exact rfl; exact rfl; exact rfl)
    | (apply EvO.call; exact (l_toArcSr _ hx); exact rfl; exact rfl; exact rfl)
    | refine Ev.ret ?_)
  all_goals exact ⟨_, rfl⟩
set_option maxRecDepth 20000 in
set_option maxHeartbeats 1000000 in
theorem l_eqArcS (xs ys : List Arc) : CallSpec Try.prog 45 [.one (.ro (recs encArc xs)), .one (.ro (recs encArc ys))] (.t (.bool (decide (xs = ys)))) := by
  refine spec1 pm45 Try.func45 (by kernel_rfl) rfl Try.ntmps45 rfl Try.results45 rfl ?_
  intro B0 w0 S0
  have e1 := recs_len encArc xs
  have e2 := recs_len encArc ys
  refine Ev.len_le 0 rfl (fun e3 => ?_)
  by_cases hl : xs.length = ys.length
  · repeat' (first
      | refine Ev.seq ?_
      | refine Ev.block ?_
      | refine Ev.region ?_
      | (apply Ev.draws; exact follows; kernel_rfl)
      | refine Ev.skip ?_
      | refine Ev.exit ?_
      | refine EvO.nil ?_
      | (apply EvO.moveT; exact rfl; exact rfl; exact rfl)
      | (apply EvO.moveAl; exact rfl; exact rfl; exact rfl)
      | (apply EvO.moveAgg; exact rfl; exact rfl; exact rfl)
      | (apply EvO.assignOwn; exact rfl; exact rfl; exact rfl; exact rfl; exact rfl)
      | (apply EvO.assignT; exact rfl; exact rfl; exact rfl)
      | (apply EvO.assignAl; exact rfl; exact rfl; exact rfl)
      | (apply EvO.assignAgg; exact rfl; exact rfl; exact rfl)
      | (apply EvO.add; exact rfl; exact rfl; omega; exact rfl; exact rfl)
      | (apply EvO.neq; exact rfl; exact rfl; exact rfl; exact rfl)
      | (apply EvO.neqBs; exact rfl; exact rfl; kernel_rfl; exact rfl; exact rfl)
      | (apply EvO.neqB; exact rfl; exact rfl; kernel_rfl; exact rfl; exact rfl)
      | (apply EvO.lss; exact rfl; exact rfl; exact rfl; exact rfl)
      | (apply EvO.notP; exact rfl; exact rfl; exact rfl)
      | (apply EvO.not; exact rfl; exact rfl; exact rfl)
      | (apply EvO.loadBoxAgg (t := 55); exact rfl; exact rfl; exact rfl; kernel_rfl; exact rfl; exact rfl; exact rfl)
      | (apply EvO.loadRoAll (t := 55); exact rfl; kernel_rfl; exact rfl; exact rfl; exact rfl)
      | (apply EvO.idxRoI; exact rfl; exact rfl; omega; omega; ((with_reducible first | exact es_42)); exact rfl; exact rfl)
      | (apply EvO.idxRo; exact rfl; exact rfl; omega; (first | assumption | exact rfl | exact recs_get (by omega) (by omega)); exact rfl; ((with_reducible first | exact es_42)); exact rfl; exact rfl)
      | (apply EvO.idxOwn; exact rfl; exact rfl; exact rfl; omega; (first | omega | (simp <;> omega)); ((with_reducible first | exact el_42)); exact rfl; exact rfl)
      | (apply EvO.lenRo; exact rfl; kernel_rfl; exact rfl; exact rfl)
      | (apply EvO.lenOwn; exact rfl; exact rfl; kernel_rfl; exact rfl; exact rfl)
      | (apply EvO.lenNil; exact rfl; kernel_rfl; exact rfl; exact rfl)
      | (apply Ev.condT; exact rfl)
      | (apply Ev.condF; exact rfl)
      | (apply Ev.cond; exact rfl; all_goals (intro hh; first | replace hh := of_decide_eq_true hh | replace hh := of_decide_eq_false hh | skip))
      | (apply EvO.move; exact rfl; exact rfl)
      | (apply EvO.assign; exact rfl; exact rfl)
      | refine Ev.ret ?_)
    all_goals first | (exfalso; omega) | skip
    refine Ev.loop (fun n fr => ∃ k : Int, fr 0 = .t (.ro (recs encArc xs)) ∧ fr 1 = .t (.ro (recs encArc ys)) ∧ fr 5 = .t (.int k) ∧ 0 ≤ k ∧ k + n = xs.length ∧ ∀ j : Int, 0 ≤ j → j < k → getr xs j = getr ys j) xs.length ⟨0, rfl, rfl, rfl, by omega, by omega, by omega⟩ ?_
    rintro n fr ⟨k, h0, h1, h5, hk, hn, hp⟩
    refine Ev.know 0 h0 (Ev.know 1 h1 (Ev.know 5 h5 ?_))
    repeat' (first
      | refine Ev.seq ?_
      | refine Ev.block ?_
      | refine Ev.region ?_
      | (apply Ev.draws; exact follows; kernel_rfl)
      | refine Ev.skip ?_
      | refine Ev.exit ?_
      | refine EvO.nil ?_
      | (apply EvO.moveT; exact rfl; exact rfl; exact rfl)
      | (apply EvO.moveAl; exact rfl; exact rfl; exact rfl)
      | (apply EvO.moveAgg; exact rfl; exact rfl; exact rfl)
      | (apply EvO.assignOwn; exact rfl; exact rfl; exact rfl; exact rfl; exact rfl)
      | (apply EvO.assignT; exact rfl; exact rfl; exact rfl)
      | (apply EvO.assignAl; exact rfl; exact rfl; exact rfl)
      | (apply EvO.assignAgg; exact rfl; exact rfl; exact rfl)
      | (apply EvO.add; exact rfl; exact rfl; omega; exact rfl; exact rfl)
      | (apply EvO.neq; exact rfl; exact rfl; exact rfl; exact rfl)
      | (apply EvO.neqBs; exact rfl; exact rfl; kernel_rfl; exact rfl; exact rfl)
      | (apply EvO.neqB; exact rfl; exact rfl; kernel_rfl; exact rfl; exact rfl)
      | (apply EvO.lss; exact rfl; exact rfl; exact rfl; exact rfl)
      | (apply EvO.notP; exact rfl; exact rfl; exact rfl)
      | (apply EvO.not; exact rfl; exact rfl; exact rfl)
      | (apply EvO.loadBoxAgg (t := 55); exact rfl; exact rfl; exact rfl; kernel_rfl; exact rfl; exact rfl; exact rfl)
      | (apply EvO.loadRoAll (t := 55); exact rfl; kernel_rfl; exact rfl; exact rfl; exact rfl)
      | (apply EvO.idxRoR (enc := encArc); exact rfl; exact rfl; omega; omega; ((with_reducible first | exact es_42)); exact rfl; exact rfl; exact rfl)
      | (apply EvO.idxRoI; exact rfl; exact rfl; omega; omega; ((with_reducible first | exact es_42)); exact rfl; exact rfl)
      | (apply EvO.idxRo; exact rfl; exact rfl; omega; (first | assumption | exact rfl | exact recs_get (by omega) (by omega)); exact rfl; ((with_reducible first | exact es_42)); exact rfl; exact rfl)
      | (apply EvO.idxOwn; exact rfl; exact rfl; exact rfl; omega; (first | omega | (simp <;> omega)); ((with_reducible first | exact el_42)); exact rfl; exact rfl)
      | (apply EvO.lenRo; exact rfl; kernel_rfl; exact rfl; exact rfl)
      | (apply EvO.lenOwn; exact rfl; exact rfl; kernel_rfl; exact rfl; exact rfl)
      | (apply EvO.lenNil; exact rfl; kernel_rfl; exact rfl; exact rfl)
      | (apply EvO.call; exact (l_eqArc (getr xs k) (getr ys k)); exact rfl; exact rfl; exact rfl)
      | (apply Ev.condT; exact rfl)
      | (apply Ev.condF; exact rfl)
      | (apply Ev.cond; exact rfl; all_goals (intro hh; first | replace hh := of_decide_eq_true hh | replace hh := of_decide_eq_false hh | skip))
      | (apply EvO.move; exact rfl; exact rfl)
      | (apply EvO.assign; exact rfl; exact rfl)
      | refine Ev.ret ?_)
    · have hne : ¬ xs = ys := fun e => (‹¬ getr xs k = getr ys k›) (by rw [e])
      rw [decide_eq_false hne]; rfl
    · refine ⟨n - 1, by omega, k + 1, rfl, rfl, rfl, by omega, by omega, fun j j0 j1 => ?_⟩
      by_cases hj : j = k
      · subst hj; exact Decidable.of_not_not ‹_›
      · exact hp j j0 (by omega)
    · have he : xs = ys := getr_ext hl (fun j j0 j1 => hp j j0 (by omega))
      rw [decide_eq_true he]; rfl
  · have hne : ¬ xs = ys := fun e => hl (by rw [e])
    repeat' (first
      | refine Ev.seq ?_
      | refine Ev.block ?_
      | refine Ev.region ?_
      | (apply Ev.draws; exact follows; kernel_rfl)
      | refine Ev.skip ?_
      | refine Ev.exit ?_
      | refine EvO.nil ?_
      | (apply EvO.moveT; exact rfl; exact rfl; exact rfl)
      | (apply EvO.moveAl; exact rfl; exact rfl; exact rfl)
      | (apply EvO.moveAgg; exact rfl; exact rfl; exact rfl)
      | (apply EvO.assignOwn; exact rfl; exact rfl; exact rfl; exact rfl; exact rfl)
      | (apply EvO.assignT; exact rfl; exact rfl; exact rfl)
      | (apply EvO.assignAl; exact rfl; exact rfl; exact rfl)
      | (apply EvO.assignAgg; exact rfl; exact rfl; exact rfl)
      | (apply EvO.add; exact rfl; exact rfl; omega; exact rfl; exact rfl)
      | (apply EvO.neq; exact rfl; exact rfl; exact rfl; exact rfl)
      | (apply EvO.neqBs; exact rfl; exact rfl; kernel_rfl; exact rfl; exact rfl)
      | (apply EvO.neqB; exact rfl; exact rfl; kernel_rfl; exact rfl; exact rfl)
      | (apply EvO.lss; exact rfl; exact rfl; exact rfl; exact rfl)
      | (apply EvO.notP; exact rfl; exact rfl; exact rfl)
      | (apply EvO.not; exact rfl; exact rfl; exact rfl)
      | (apply EvO.loadBoxAgg (t := 55); exact rfl; exact rfl; exact rfl; kernel_rfl; exact rfl; exact rfl; exact rfl)
      | (apply EvO.loadRoAll (t := 55); exact rfl; kernel_rfl; exact rfl; exact rfl; exact rfl)
      | (apply EvO.idxRoI; exact rfl; exact rfl; omega; omega; ((with_reducible first | exact es_42)); exact rfl; exact rfl)
      | (apply EvO.idxRo; exact rfl; exact rfl; omega; (first | assumption | exact rfl | exact recs_get (by omega) (by omega)); exact rfl; ((with_reducible first | exact es_42)); exact rfl; exact rfl)
      | (apply EvO.idxOwn; exact rfl; exact rfl; exact rfl; omega; (first | omega | (simp <;> omega)); ((with_reducible first | exact el_42)); exact rfl; exact rfl)
      | (apply EvO.lenRo; exact rfl; kernel_rfl; exact rfl; exact rfl)
      | (apply EvO.lenOwn; exact rfl; exact rfl; kernel_rfl; exact rfl; exact rfl)
      | (apply EvO.lenNil; exact rfl; kernel_rfl; exact rfl; exact rfl)
      | (apply Ev.condT; exact rfl)
      | (apply Ev.condF; exact rfl)
      | (apply Ev.cond; exact rfl; all_goals (intro hh; first | replace hh := of_decide_eq_true hh | replace hh := of_decide_eq_false hh | skip))
      | (apply EvO.move; exact rfl; exact rfl)
      | (apply EvO.assign; exact rfl; exact rfl)
      | refine Ev.ret ?_)
    all_goals first | (exfalso; omega) | (rw [decide_eq_false hne]; rfl)
set_option maxRecDepth 20000 in
set_option maxHeartbeats 1000000 in
theorem l_eqTimingGraph (g h : TG) : CallSpec Try.prog 26 [.agg (encTG g), .agg (encTG h)] (.t (.bool (decide (g = h)))) := by
  refine spec1 (fun _ => []) Try.func26 (by kernel_rfl) rfl Try.ntmps26 rfl Try.results26 rfl ?_
  intro B0 w0 S0
  repeat' (first
    | refine Ev.seq ?_
    | refine Ev.region ?_
    | refine Ev.skip ?_
    | refine EvO.nil ?_
    | (apply EvO.assignOwn; exact rfl; exact rfl; exact rfl; exact rfl; exact rfl)
    | (apply EvO.assignT; exact rfl; exact rfl; exact rfl)
    | (apply EvO.assignAl; exact rfl; exact rfl; exact rfl)
    | (apply EvO.assignAgg; exact rfl; exact rfl; exact rfl)
    | (apply EvO.neq; exact rfl; exact rfl; exact rfl; exact rfl)
    | (apply EvO.neqBs; exact rfl; exact rfl; kernel_rfl; exact rfl; exact rfl)
    | (apply EvO.neqB; exact rfl; exact rfl; kernel_rfl; exact rfl; exact rfl)
    | (apply EvO.notP; exact rfl; exact rfl; exact rfl)
    | (apply EvO.not; exact rfl; exact rfl; exact rfl)
    | (apply EvO.loadI (t := 3); exact rfl; exact rfl; omega; omega; kernel_rfl; exact rfl; exact rfl)
    | (apply EvO.loadI (t := 42); exact rfl; exact rfl; omega; omega; kernel_rfl; exact rfl; exact rfl)
    | (apply EvO.loadOwn (t := 3); exact rfl; exact rfl; exact rfl; exact rfl; exact rfl; kernel_rfl; exact rfl; exact rfl)
    | (apply EvO.loadOwn (t := 42); exact rfl; exact rfl; exact rfl; exact rfl; exact rfl; kernel_rfl; exact rfl; exact rfl)
    | (apply EvO.loadBox (t := 3); exact rfl; exact rfl; exact rfl; exact rfl; kernel_rfl; exact rfl; exact rfl)
    | (apply EvO.loadBox (t := 42); exact rfl; exact rfl; exact rfl; exact rfl; kernel_rfl; exact rfl; exact rfl)
    | (apply EvO.loadRo (t := 3); exact rfl; exact rfl; kernel_rfl; exact rfl; exact rfl)
    | (apply EvO.loadRo (t := 42); exact rfl; exact rfl; kernel_rfl; exact rfl; exact rfl)
    | (apply EvO.fldBox; exact rfl; exact rfl; ((with_reducible first | exact fl_44_0 | exact fl_44_1)); exact rfl; exact rfl; exact rfl)
    | (apply EvO.fldAddr; exact rfl; ((with_reducible first | exact fl_44_0 | exact fl_44_1)); exact rfl; exact rfl)
    | (apply EvO.fldRo; exact rfl; ((with_reducible first | exact fl_44_0 | exact fl_44_1)); exact rfl; exact rfl)
    | (apply EvO.boxAgg; exact rfl; kernel_rfl; exact rfl; exact rfl; exact rfl)
    | (apply EvO.call; exact (l_eqArcS _ _); exact rfl; exact rfl; exact rfl)
    | (apply Ev.condT; exact rfl)
    | (apply Ev.condF; exact rfl)
    | (apply Ev.cond; exact rfl; all_goals (intro hh; first | replace hh := of_decide_eq_true hh | replace hh := of_decide_eq_false hh | skip))
    | (apply EvO.assign; exact rfl; exact rfl)
    | refine Ev.ret ?_)
  all_goals (refine pvb ?_; cases g; cases h; simp at *; simp [*])
def arcOk (n : Int) (a : Arc) : Prop := (0 ≤ a.t ∧ a.t ≤ n - 1) ∧ (0 ≤ a.f ∧ a.f ≤ a.t - 1) ∧ (0 ≤ a.d ∧ a.d ≤ 100)
def TG.ok (g : TG) : Prop := (0 ≤ g.n ∧ g.n ≤ 500) ∧ (g.arcs.length : Int) ≤ 2000 ∧ ∀ j : Int, 0 ≤ j → j < (g.arcs.length : Int) → arcOk g.n (getr g.arcs j)
set_option maxRecDepth 20000 in
set_option maxHeartbeats 1000000 in
theorem i_TimingOk (g : TG) : CallSpec Try.prog 25 [.agg (encTG g)] (.t (.bool (dec g.ok))) := by
  refine spec1 (fun _ => []) Try.func25 (by kernel_rfl) rfl Try.ntmps25 rfl Try.results25 rfl ?_
  intro B0 w0 S0
  have e1 := recs_len encArc g.arcs
  by_cases h : 0 ≤ g.n ∧ g.n ≤ 500
  · by_cases hl : (g.arcs.length : Int) ≤ 2000
    · repeat' (first
        | refine Ev.seq ?_
        | refine Ev.block ?_
        | refine Ev.region ?_
        | refine Ev.skip ?_
        | refine Ev.exit ?_
        | refine EvO.nil ?_
        | (apply EvO.moveT; exact rfl; exact rfl; exact rfl)
        | (apply EvO.moveAl; exact rfl; exact rfl; exact rfl)
        | (apply EvO.moveAgg; exact rfl; exact rfl; exact rfl)
        | (apply EvO.assignOwn; exact rfl; exact rfl; exact rfl; exact rfl; exact rfl)
        | (apply EvO.assignT; exact rfl; exact rfl; exact rfl)
        | (apply EvO.assignAl; exact rfl; exact rfl; exact rfl)
        | (apply EvO.assignAgg; exact rfl; exact rfl; exact rfl)
        | (apply EvO.add; exact rfl; exact rfl; omega; exact rfl; exact rfl)
        | (apply EvO.sub; exact rfl; exact rfl; omega; exact rfl; exact rfl)
        | (apply EvO.lss; exact rfl; exact rfl; exact rfl; exact rfl)
        | (apply EvO.gtr; exact rfl; exact rfl; exact rfl; exact rfl)
        | (apply EvO.notP; exact rfl; exact rfl; exact rfl)
        | (apply EvO.not; exact rfl; exact rfl; exact rfl)
        | (apply EvO.pickT; exact rfl; exact rfl; exact rfl; exact rfl)
        | (apply EvO.pickF; exact rfl; exact rfl; exact rfl; exact rfl)
        | (apply EvO.skip; exact rfl; exact rfl; exact rfl)
        | (apply EvO.loadI (t := 3); exact rfl; exact rfl; omega; omega; kernel_rfl; exact rfl; exact rfl)
        | (apply EvO.loadI (t := 42); exact rfl; exact rfl; omega; omega; kernel_rfl; exact rfl; exact rfl)
        | (apply EvO.loadOwn (t := 3); exact rfl; exact rfl; exact rfl; exact rfl; exact rfl; kernel_rfl; exact rfl; exact rfl)
        | (apply EvO.loadOwn (t := 42); exact rfl; exact rfl; exact rfl; exact rfl; exact rfl; kernel_rfl; exact rfl; exact rfl)
        | (apply EvO.loadBoxAgg (t := 55); exact rfl; exact rfl; exact rfl; kernel_rfl; exact rfl; exact rfl; exact rfl)
        | (apply EvO.loadBox (t := 3); exact rfl; exact rfl; exact rfl; exact rfl; kernel_rfl; exact rfl; exact rfl)
        | (apply EvO.loadBox (t := 42); exact rfl; exact rfl; exact rfl; exact rfl; kernel_rfl; exact rfl; exact rfl)
        | (apply EvO.loadRo (t := 3); exact rfl; exact rfl; kernel_rfl; exact rfl; exact rfl)
        | (apply EvO.loadRo (t := 42); exact rfl; exact rfl; kernel_rfl; exact rfl; exact rfl)
        | (apply EvO.loadRoAll (t := 55); exact rfl; kernel_rfl; exact rfl; exact rfl; exact rfl)
        | (apply EvO.fldBox; exact rfl; exact rfl; ((with_reducible first | exact fl_44_0 | exact fl_44_1 | exact fl_55_0 | exact fl_55_1 | exact fl_55_2)); exact rfl; exact rfl; exact rfl)
        | (apply EvO.fldAddr; exact rfl; ((with_reducible first | exact fl_44_0 | exact fl_44_1 | exact fl_55_0 | exact fl_55_1 | exact fl_55_2)); exact rfl; exact rfl)
        | (apply EvO.fldRo; exact rfl; ((with_reducible first | exact fl_44_0 | exact fl_44_1 | exact fl_55_0 | exact fl_55_1 | exact fl_55_2)); exact rfl; exact rfl)
        | (apply EvO.boxAgg; exact rfl; kernel_rfl; exact rfl; exact rfl; exact rfl)
        | (apply EvO.idxRoI; exact rfl; exact rfl; omega; omega; ((with_reducible first | exact es_42)); exact rfl; exact rfl)
        | (apply EvO.idxRo; exact rfl; exact rfl; omega; (first | assumption | exact rfl | exact recs_get (by omega) (by omega)); exact rfl; ((with_reducible first | exact es_42)); exact rfl; exact rfl)
        | (apply EvO.idxOwn; exact rfl; exact rfl; exact rfl; omega; (first | omega | (simp <;> omega)); ((with_reducible first | exact el_42)); exact rfl; exact rfl)
        | (apply EvO.storeBoxAgg (t := 55); exact rfl; exact rfl; exact rfl; exact rfl; kernel_rfl; exact rfl; exact rfl; kernel_rfl)
        | (apply EvO.alloc; ((with_reducible first | exact zr_55)); kernel_rfl; exact rfl; exact rfl; exact rfl)
        | (apply EvO.lenRo; exact rfl; kernel_rfl; exact rfl; exact rfl)
        | (apply EvO.lenOwn; exact rfl; exact rfl; kernel_rfl; exact rfl; exact rfl)
        | (apply EvO.lenNil; exact rfl; kernel_rfl; exact rfl; exact rfl)
        | (apply EvO.call; exact (CallSpec.bT (i_inRange _ _ _) h); exact rfl; exact rfl; exact rfl)
        | (apply Ev.condT; exact rfl)
        | (apply Ev.condF; exact rfl)
        | (apply Ev.cond; exact rfl; all_goals (intro hh; first | replace hh := of_decide_eq_true hh | replace hh := of_decide_eq_false hh | skip))
        | (apply EvO.gsplit; exact rfl; exact rfl; exact rfl; all_goals (intro hh; first | replace hh := of_decide_eq_true hh | replace hh := of_decide_eq_false hh | skip))
        | (apply EvO.move; exact rfl; exact rfl)
        | (apply EvO.assign; exact rfl; exact rfl)
        | refine Ev.ret ?_)
      all_goals first | (exfalso; omega) | skip
      refine Ev.loop (fun n fr => ∃ k : Int, fr 1 = .t (.own true 44 [encTG g]) ∧ fr 16 = .t (.ro (recs encArc g.arcs)) ∧ fr 17 = .t (.int ((recs encArc g.arcs).length : Int)) ∧ fr 18 = .t (.int k) ∧ 0 ≤ k ∧ k + n = g.arcs.length ∧ ∀ j : Int, 0 ≤ j → j < k → arcOk g.n (getr g.arcs j)) g.arcs.length ⟨0, rfl, rfl, rfl, rfl, by omega, by omega, by omega⟩ ?_
      rintro n fr ⟨k, h1, h16, h17, h18, hk, hn, hp⟩
      refine Ev.know 1 h1 (Ev.know 16 h16 (Ev.know 17 h17 (Ev.know 18 h18 ?_)))
      repeat' (first
        | refine Ev.seq ?_
        | refine Ev.block ?_
        | refine Ev.region ?_
        | refine Ev.skip ?_
        | refine Ev.exit ?_
        | refine EvO.nil ?_
        | (apply EvO.moveT; exact rfl; exact rfl; exact rfl)
        | (apply EvO.moveAl; exact rfl; exact rfl; exact rfl)
        | (apply EvO.moveAgg; exact rfl; exact rfl; exact rfl)
        | (apply EvO.assignOwn; exact rfl; exact rfl; exact rfl; exact rfl; exact rfl)
        | (apply EvO.assignT; exact rfl; exact rfl; exact rfl)
        | (apply EvO.assignAl; exact rfl; exact rfl; exact rfl)
        | (apply EvO.assignAgg; exact rfl; exact rfl; exact rfl)
        | (apply EvO.add; exact rfl; exact rfl; omega; exact rfl; exact rfl)
        | (apply EvO.sub; exact rfl; exact rfl; omega; exact rfl; exact rfl)
        | (apply EvO.lss; exact rfl; exact rfl; exact rfl; exact rfl)
        | (apply EvO.gtr; exact rfl; exact rfl; exact rfl; exact rfl)
        | (apply EvO.notP; exact rfl; exact rfl; exact rfl)
        | (apply EvO.not; exact rfl; exact rfl; exact rfl)
        | (apply EvO.pickT; exact rfl; exact rfl; exact rfl; exact rfl)
        | (apply EvO.pickF; exact rfl; exact rfl; exact rfl; exact rfl)
        | (apply EvO.skip; exact rfl; exact rfl; exact rfl)
        | (apply EvO.loadI (t := 3); exact rfl; exact rfl; omega; omega; kernel_rfl; exact rfl; exact rfl)
        | (apply EvO.loadI (t := 42); exact rfl; exact rfl; omega; omega; kernel_rfl; exact rfl; exact rfl)
        | (apply EvO.loadOwn (t := 3); exact rfl; exact rfl; exact rfl; exact rfl; exact rfl; kernel_rfl; exact rfl; exact rfl)
        | (apply EvO.loadOwn (t := 42); exact rfl; exact rfl; exact rfl; exact rfl; exact rfl; kernel_rfl; exact rfl; exact rfl)
        | (apply EvO.loadBoxAgg (t := 55); exact rfl; exact rfl; exact rfl; kernel_rfl; exact rfl; exact rfl; exact rfl)
        | (apply EvO.loadBox (t := 3); exact rfl; exact rfl; exact rfl; exact rfl; kernel_rfl; exact rfl; exact rfl)
        | (apply EvO.loadBox (t := 42); exact rfl; exact rfl; exact rfl; exact rfl; kernel_rfl; exact rfl; exact rfl)
        | (apply EvO.loadRo (t := 3); exact rfl; exact rfl; kernel_rfl; exact rfl; exact rfl)
        | (apply EvO.loadRo (t := 42); exact rfl; exact rfl; kernel_rfl; exact rfl; exact rfl)
        | (apply EvO.loadRoAll (t := 55); exact rfl; kernel_rfl; exact rfl; exact rfl; exact rfl)
        | (apply EvO.fldBox; exact rfl; exact rfl; ((with_reducible first | exact fl_44_0 | exact fl_44_1 | exact fl_55_0 | exact fl_55_1 | exact fl_55_2)); exact rfl; exact rfl; exact rfl)
        | (apply EvO.fldAddr; exact rfl; ((with_reducible first | exact fl_44_0 | exact fl_44_1 | exact fl_55_0 | exact fl_55_1 | exact fl_55_2)); exact rfl; exact rfl)
        | (apply EvO.fldRo; exact rfl; ((with_reducible first | exact fl_44_0 | exact fl_44_1 | exact fl_55_0 | exact fl_55_1 | exact fl_55_2)); exact rfl; exact rfl)
        | (apply EvO.idxRoR (enc := encArc); exact rfl; exact rfl; omega; omega; ((with_reducible first | exact es_42)); exact rfl; exact rfl; exact rfl)
        | (apply EvO.storeR (t := 55) (enc := encArc); exact rfl; exact rfl; exact rfl; omega; omega; exact rfl; kernel_rfl; exact rfl; exact rfl; exact rfl)
        | (apply EvO.boxAgg; exact rfl; kernel_rfl; exact rfl; exact rfl; exact rfl)
        | (apply EvO.idxRoI; exact rfl; exact rfl; omega; omega; ((with_reducible first | exact es_42)); exact rfl; exact rfl)
        | (apply EvO.idxRo; exact rfl; exact rfl; omega; (first | assumption | exact rfl | exact recs_get (by omega) (by omega)); exact rfl; ((with_reducible first | exact es_42)); exact rfl; exact rfl)
        | (apply EvO.idxOwn; exact rfl; exact rfl; exact rfl; omega; (first | omega | (simp <;> omega)); ((with_reducible first | exact el_42)); exact rfl; exact rfl)
        | (apply EvO.storeBoxAgg (t := 55); exact rfl; exact rfl; exact rfl; exact rfl; kernel_rfl; exact rfl; exact rfl; kernel_rfl)
        | (apply EvO.alloc; ((with_reducible first | exact zr_55)); kernel_rfl; exact rfl; exact rfl; exact rfl)
        | (apply EvO.lenRo; exact rfl; kernel_rfl; exact rfl; exact rfl)
        | (apply EvO.lenOwn; exact rfl; exact rfl; kernel_rfl; exact rfl; exact rfl)
        | (apply EvO.lenNil; exact rfl; kernel_rfl; exact rfl; exact rfl)
        | (apply EvO.call; exact (i_inRange _ _ _); exact rfl; exact rfl; exact rfl)
        | (apply Ev.condT; exact rfl)
        | (apply Ev.condF; exact rfl)
        | (apply Ev.cond; exact rfl; all_goals (intro hh; first | replace hh := of_decide_eq_true hh | replace hh := of_decide_eq_false hh | skip))
        | (apply EvO.gsplit; exact rfl; exact rfl; exact rfl; all_goals (intro hh; first | replace hh := of_decide_eq_true hh | replace hh := of_decide_eq_false hh | skip))
        | (apply EvO.move; exact rfl; exact rfl)
        | (apply EvO.assign; exact rfl; exact rfl)
        | refine Ev.ret ?_)
      all_goals first
        | (exfalso; omega)
        | (refine ⟨n - 1, by omega, k + 1, rfl, rfl, rfl, rfl, by omega, by omega, fun j j0 j1 => ?_⟩
           by_cases hj : j = k
           · subst hj; unfold arcOk; omega
           · exact hp j j0 (by omega))
        | (rw [dec_f (fun e => by have := e.2.2 k hk (by omega); unfold arcOk at this; omega)]; rfl)
        | (rw [dec_t ⟨h, hl, fun j j0 j1 => hp j j0 (by omega)⟩]; rfl)
    · repeat' (first
        | refine Ev.seq ?_
        | refine Ev.block ?_
        | refine Ev.region ?_
        | refine Ev.skip ?_
        | refine Ev.exit ?_
        | refine EvO.nil ?_
        | (apply EvO.moveT; exact rfl; exact rfl; exact rfl)
        | (apply EvO.moveAl; exact rfl; exact rfl; exact rfl)
        | (apply EvO.moveAgg; exact rfl; exact rfl; exact rfl)
        | (apply EvO.assignOwn; exact rfl; exact rfl; exact rfl; exact rfl; exact rfl)
        | (apply EvO.assignT; exact rfl; exact rfl; exact rfl)
        | (apply EvO.assignAl; exact rfl; exact rfl; exact rfl)
        | (apply EvO.assignAgg; exact rfl; exact rfl; exact rfl)
        | (apply EvO.add; exact rfl; exact rfl; omega; exact rfl; exact rfl)
        | (apply EvO.sub; exact rfl; exact rfl; omega; exact rfl; exact rfl)
        | (apply EvO.lss; exact rfl; exact rfl; exact rfl; exact rfl)
        | (apply EvO.gtr; exact rfl; exact rfl; exact rfl; exact rfl)
        | (apply EvO.notP; exact rfl; exact rfl; exact rfl)
        | (apply EvO.not; exact rfl; exact rfl; exact rfl)
        | (apply EvO.pickT; exact rfl; exact rfl; exact rfl; exact rfl)
        | (apply EvO.pickF; exact rfl; exact rfl; exact rfl; exact rfl)
        | (apply EvO.skip; exact rfl; exact rfl; exact rfl)
        | (apply EvO.loadI (t := 3); exact rfl; exact rfl; omega; omega; kernel_rfl; exact rfl; exact rfl)
        | (apply EvO.loadI (t := 42); exact rfl; exact rfl; omega; omega; kernel_rfl; exact rfl; exact rfl)
        | (apply EvO.loadOwn (t := 3); exact rfl; exact rfl; exact rfl; exact rfl; exact rfl; kernel_rfl; exact rfl; exact rfl)
        | (apply EvO.loadOwn (t := 42); exact rfl; exact rfl; exact rfl; exact rfl; exact rfl; kernel_rfl; exact rfl; exact rfl)
        | (apply EvO.loadBoxAgg (t := 55); exact rfl; exact rfl; exact rfl; kernel_rfl; exact rfl; exact rfl; exact rfl)
        | (apply EvO.loadBox (t := 3); exact rfl; exact rfl; exact rfl; exact rfl; kernel_rfl; exact rfl; exact rfl)
        | (apply EvO.loadBox (t := 42); exact rfl; exact rfl; exact rfl; exact rfl; kernel_rfl; exact rfl; exact rfl)
        | (apply EvO.loadRo (t := 3); exact rfl; exact rfl; kernel_rfl; exact rfl; exact rfl)
        | (apply EvO.loadRo (t := 42); exact rfl; exact rfl; kernel_rfl; exact rfl; exact rfl)
        | (apply EvO.loadRoAll (t := 55); exact rfl; kernel_rfl; exact rfl; exact rfl; exact rfl)
        | (apply EvO.fldBox; exact rfl; exact rfl; ((with_reducible first | exact fl_44_0 | exact fl_44_1 | exact fl_55_0 | exact fl_55_1 | exact fl_55_2)); exact rfl; exact rfl; exact rfl)
        | (apply EvO.fldAddr; exact rfl; ((with_reducible first | exact fl_44_0 | exact fl_44_1 | exact fl_55_0 | exact fl_55_1 | exact fl_55_2)); exact rfl; exact rfl)
        | (apply EvO.fldRo; exact rfl; ((with_reducible first | exact fl_44_0 | exact fl_44_1 | exact fl_55_0 | exact fl_55_1 | exact fl_55_2)); exact rfl; exact rfl)
        | (apply EvO.boxAgg; exact rfl; kernel_rfl; exact rfl; exact rfl; exact rfl)
        | (apply EvO.idxRoI; exact rfl; exact rfl; omega; omega; ((with_reducible first | exact es_42)); exact rfl; exact rfl)
        | (apply EvO.idxRo; exact rfl; exact rfl; omega; (first | assumption | exact rfl | exact recs_get (by omega) (by omega)); exact rfl; ((with_reducible first | exact es_42)); exact rfl; exact rfl)
        | (apply EvO.idxOwn; exact rfl; exact rfl; exact rfl; omega; (first | omega | (simp <;> omega)); ((with_reducible first | exact el_42)); exact rfl; exact rfl)
        | (apply EvO.storeBoxAgg (t := 55); exact rfl; exact rfl; exact rfl; exact rfl; kernel_rfl; exact rfl; exact rfl; kernel_rfl)
        | (apply EvO.alloc; ((with_reducible first | exact zr_55)); kernel_rfl; exact rfl; exact rfl; exact rfl)
        | (apply EvO.lenRo; exact rfl; kernel_rfl; exact rfl; exact rfl)
        | (apply EvO.lenOwn; exact rfl; exact rfl; kernel_rfl; exact rfl; exact rfl)
        | (apply EvO.lenNil; exact rfl; kernel_rfl; exact rfl; exact rfl)
        | (apply EvO.call; exact (CallSpec.bT (i_inRange _ _ _) h); exact rfl; exact rfl; exact rfl)
        | (apply Ev.condT; exact rfl)
        | (apply Ev.condF; exact rfl)
        | (apply Ev.cond; exact rfl; all_goals (intro hh; first | replace hh := of_decide_eq_true hh | replace hh := of_decide_eq_false hh | skip))
        | (apply EvO.gsplit; exact rfl; exact rfl; exact rfl; all_goals (intro hh; first | replace hh := of_decide_eq_true hh | replace hh := of_decide_eq_false hh | skip))
        | (apply EvO.move; exact rfl; exact rfl)
        | (apply EvO.assign; exact rfl; exact rfl)
        | refine Ev.ret ?_)
      all_goals first | (exfalso; omega) | (rw [dec_f (fun e => hl e.2.1)]; rfl)
  · repeat' (first
      | refine Ev.seq ?_
      | refine Ev.block ?_
      | refine Ev.region ?_
      | refine Ev.skip ?_
      | refine Ev.exit ?_
      | refine EvO.nil ?_
      | (apply EvO.moveT; exact rfl; exact rfl; exact rfl)
      | (apply EvO.moveAl; exact rfl; exact rfl; exact rfl)
      | (apply EvO.moveAgg; exact rfl; exact rfl; exact rfl)
      | (apply EvO.assignOwn; exact rfl; exact rfl; exact rfl; exact rfl; exact rfl)
      | (apply EvO.assignT; exact rfl; exact rfl; exact rfl)
      | (apply EvO.assignAl; exact rfl; exact rfl; exact rfl)
      | (apply EvO.assignAgg; exact rfl; exact rfl; exact rfl)
      | (apply EvO.add; exact rfl; exact rfl; omega; exact rfl; exact rfl)
      | (apply EvO.sub; exact rfl; exact rfl; omega; exact rfl; exact rfl)
      | (apply EvO.lss; exact rfl; exact rfl; exact rfl; exact rfl)
      | (apply EvO.gtr; exact rfl; exact rfl; exact rfl; exact rfl)
      | (apply EvO.notP; exact rfl; exact rfl; exact rfl)
      | (apply EvO.not; exact rfl; exact rfl; exact rfl)
      | (apply EvO.pickT; exact rfl; exact rfl; exact rfl; exact rfl)
      | (apply EvO.pickF; exact rfl; exact rfl; exact rfl; exact rfl)
      | (apply EvO.skip; exact rfl; exact rfl; exact rfl)
      | (apply EvO.loadI (t := 3); exact rfl; exact rfl; omega; omega; kernel_rfl; exact rfl; exact rfl)
      | (apply EvO.loadI (t := 42); exact rfl; exact rfl; omega; omega; kernel_rfl; exact rfl; exact rfl)
      | (apply EvO.loadOwn (t := 3); exact rfl; exact rfl; exact rfl; exact rfl; exact rfl; kernel_rfl; exact rfl; exact rfl)
      | (apply EvO.loadOwn (t := 42); exact rfl; exact rfl; exact rfl; exact rfl; exact rfl; kernel_rfl; exact rfl; exact rfl)
      | (apply EvO.loadBoxAgg (t := 55); exact rfl; exact rfl; exact rfl; kernel_rfl; exact rfl; exact rfl; exact rfl)
      | (apply EvO.loadBox (t := 3); exact rfl; exact rfl; exact rfl; exact rfl; kernel_rfl; exact rfl; exact rfl)
      | (apply EvO.loadBox (t := 42); exact rfl; exact rfl; exact rfl; exact rfl; kernel_rfl; exact rfl; exact rfl)
      | (apply EvO.loadRo (t := 3); exact rfl; exact rfl; kernel_rfl; exact rfl; exact rfl)
      | (apply EvO.loadRo (t := 42); exact rfl; exact rfl; kernel_rfl; exact rfl; exact rfl)
      | (apply EvO.loadRoAll (t := 55); exact rfl; kernel_rfl; exact rfl; exact rfl; exact rfl)
      | (apply EvO.fldBox; exact rfl; exact rfl; ((with_reducible first | exact fl_44_0 | exact fl_44_1 | exact fl_55_0 | exact fl_55_1 | exact fl_55_2)); exact rfl; exact rfl; exact rfl)
      | (apply EvO.fldAddr; exact rfl; ((with_reducible first | exact fl_44_0 | exact fl_44_1 | exact fl_55_0 | exact fl_55_1 | exact fl_55_2)); exact rfl; exact rfl)
      | (apply EvO.fldRo; exact rfl; ((with_reducible first | exact fl_44_0 | exact fl_44_1 | exact fl_55_0 | exact fl_55_1 | exact fl_55_2)); exact rfl; exact rfl)
      | (apply EvO.boxAgg; exact rfl; kernel_rfl; exact rfl; exact rfl; exact rfl)
      | (apply EvO.idxRoI; exact rfl; exact rfl; omega; omega; ((with_reducible first | exact es_42)); exact rfl; exact rfl)
      | (apply EvO.idxRo; exact rfl; exact rfl; omega; (first | assumption | exact rfl | exact recs_get (by omega) (by omega)); exact rfl; ((with_reducible first | exact es_42)); exact rfl; exact rfl)
      | (apply EvO.idxOwn; exact rfl; exact rfl; exact rfl; omega; (first | omega | (simp <;> omega)); ((with_reducible first | exact el_42)); exact rfl; exact rfl)
      | (apply EvO.storeBoxAgg (t := 55); exact rfl; exact rfl; exact rfl; exact rfl; kernel_rfl; exact rfl; exact rfl; kernel_rfl)
      | (apply EvO.alloc; ((with_reducible first | exact zr_55)); kernel_rfl; exact rfl; exact rfl; exact rfl)
      | (apply EvO.lenRo; exact rfl; kernel_rfl; exact rfl; exact rfl)
      | (apply EvO.lenOwn; exact rfl; exact rfl; kernel_rfl; exact rfl; exact rfl)
      | (apply EvO.lenNil; exact rfl; kernel_rfl; exact rfl; exact rfl)
      | (apply EvO.call; exact (CallSpec.bF (i_inRange _ _ _) h); exact rfl; exact rfl; exact rfl)
      | (apply Ev.condT; exact rfl)
      | (apply Ev.condF; exact rfl)
      | (apply Ev.cond; exact rfl; all_goals (intro hh; first | replace hh := of_decide_eq_true hh | replace hh := of_decide_eq_false hh | skip))
      | (apply EvO.gsplit; exact rfl; exact rfl; exact rfl; all_goals (intro hh; first | replace hh := of_decide_eq_true hh | replace hh := of_decide_eq_false hh | skip))
      | (apply EvO.move; exact rfl; exact rfl)
      | (apply EvO.assign; exact rfl; exact rfl)
      | refine Ev.ret ?_)
    all_goals first | (exfalso; omega) | (rw [dec_f (fun e => h e.1)]; rfl)
set_option maxRecDepth 20000 in
set_option maxHeartbeats 1000000 in
theorem s_TimingOk (g : TG) : CallSpec Try.prog 23 [.agg (encTG g)] (.t (.bool (dec g.ok))) := by
  refine spec1 (fun _ => []) Try.func23 (by kernel_rfl) rfl Try.ntmps23 rfl Try.results23 rfl ?_
  intro B0 w0 S0
  have e1 := recs_len encArc g.arcs
  by_cases h : 0 ≤ g.n ∧ g.n ≤ 500
  · by_cases hl : (g.arcs.length : Int) ≤ 2000
    · repeat' (first
        | refine Ev.seq ?_
        | refine Ev.block ?_
        | refine Ev.region ?_
        | refine Ev.skip ?_
        | refine Ev.exit ?_
        | refine EvO.nil ?_
        | (apply EvO.moveT; exact rfl; exact rfl; exact rfl)
        | (apply EvO.moveAl; exact rfl; exact rfl; exact rfl)
        | (apply EvO.moveAgg; exact rfl; exact rfl; exact rfl)
        | (apply EvO.assignOwn; exact rfl; exact rfl; exact rfl; exact rfl; exact rfl)
        | (apply EvO.assignT; exact rfl; exact rfl; exact rfl)
        | (apply EvO.assignAl; exact rfl; exact rfl; exact rfl)
        | (apply EvO.assignAgg; exact rfl; exact rfl; exact rfl)
        | (apply EvO.add; exact rfl; exact rfl; omega; exact rfl; exact rfl)
        | (apply EvO.lss; exact rfl; exact rfl; exact rfl; exact rfl)
        | (apply EvO.gtr; exact rfl; exact rfl; exact rfl; exact rfl)
        | (apply EvO.geq; exact rfl; exact rfl; exact rfl; exact rfl)
        | (apply EvO.notP; exact rfl; exact rfl; exact rfl)
        | (apply EvO.not; exact rfl; exact rfl; exact rfl)
        | (apply EvO.pickT; exact rfl; exact rfl; exact rfl; exact rfl)
        | (apply EvO.pickF; exact rfl; exact rfl; exact rfl; exact rfl)
        | (apply EvO.skip; exact rfl; exact rfl; exact rfl)
        | (apply EvO.loadI (t := 3); exact rfl; exact rfl; omega; omega; kernel_rfl; exact rfl; exact rfl)
        | (apply EvO.loadI (t := 42); exact rfl; exact rfl; omega; omega; kernel_rfl; exact rfl; exact rfl)
        | (apply EvO.loadOwn (t := 3); exact rfl; exact rfl; exact rfl; exact rfl; exact rfl; kernel_rfl; exact rfl; exact rfl)
        | (apply EvO.loadOwn (t := 42); exact rfl; exact rfl; exact rfl; exact rfl; exact rfl; kernel_rfl; exact rfl; exact rfl)
        | (apply EvO.loadBoxAgg (t := 55); exact rfl; exact rfl; exact rfl; kernel_rfl; exact rfl; exact rfl; exact rfl)
        | (apply EvO.loadBox (t := 3); exact rfl; exact rfl; exact rfl; exact rfl; kernel_rfl; exact rfl; exact rfl)
        | (apply EvO.loadBox (t := 42); exact rfl; exact rfl; exact rfl; exact rfl; kernel_rfl; exact rfl; exact rfl)
        | (apply EvO.loadRo (t := 3); exact rfl; exact rfl; kernel_rfl; exact rfl; exact rfl)
        | (apply EvO.loadRo (t := 42); exact rfl; exact rfl; kernel_rfl; exact rfl; exact rfl)
        | (apply EvO.loadRoAll (t := 55); exact rfl; kernel_rfl; exact rfl; exact rfl; exact rfl)
        | (apply EvO.fldBox; exact rfl; exact rfl; ((with_reducible first | exact fl_44_0 | exact fl_44_1 | exact fl_55_0 | exact fl_55_1 | exact fl_55_2)); exact rfl; exact rfl; exact rfl)
        | (apply EvO.fldAddr; exact rfl; ((with_reducible first | exact fl_44_0 | exact fl_44_1 | exact fl_55_0 | exact fl_55_1 | exact fl_55_2)); exact rfl; exact rfl)
        | (apply EvO.fldRo; exact rfl; ((with_reducible first | exact fl_44_0 | exact fl_44_1 | exact fl_55_0 | exact fl_55_1 | exact fl_55_2)); exact rfl; exact rfl)
        | (apply EvO.boxAgg; exact rfl; kernel_rfl; exact rfl; exact rfl; exact rfl)
        | (apply EvO.idxRoI; exact rfl; exact rfl; omega; omega; ((with_reducible first | exact es_42)); exact rfl; exact rfl)
        | (apply EvO.idxRo; exact rfl; exact rfl; omega; (first | assumption | exact rfl | exact recs_get (by omega) (by omega)); exact rfl; ((with_reducible first | exact es_42)); exact rfl; exact rfl)
        | (apply EvO.idxOwn; exact rfl; exact rfl; exact rfl; omega; (first | omega | (simp <;> omega)); ((with_reducible first | exact el_42)); exact rfl; exact rfl)
        | (apply EvO.storeBoxAgg (t := 55); exact rfl; exact rfl; exact rfl; exact rfl; kernel_rfl; exact rfl; exact rfl; kernel_rfl)
        | (apply EvO.alloc; ((with_reducible first | exact zr_55)); kernel_rfl; exact rfl; exact rfl; exact rfl)
        | (apply EvO.lenRo; exact rfl; kernel_rfl; exact rfl; exact rfl)
        | (apply EvO.lenOwn; exact rfl; exact rfl; kernel_rfl; exact rfl; exact rfl)
        | (apply EvO.lenNil; exact rfl; kernel_rfl; exact rfl; exact rfl)
        | (apply EvO.call; exact (CallSpec.bT (s_l01In _ _ _) h); exact rfl; exact rfl; exact rfl)
        | (apply Ev.condT; exact rfl)
        | (apply Ev.condF; exact rfl)
        | (apply Ev.cond; exact rfl; all_goals (intro hh; first | replace hh := of_decide_eq_true hh | replace hh := of_decide_eq_false hh | skip))
        | (apply EvO.gsplit; exact rfl; exact rfl; exact rfl; all_goals (intro hh; first | replace hh := of_decide_eq_true hh | replace hh := of_decide_eq_false hh | skip))
        | (apply EvO.move; exact rfl; exact rfl)
        | (apply EvO.assign; exact rfl; exact rfl)
        | refine Ev.ret ?_)
      all_goals first | (exfalso; omega) | skip
      refine Ev.loop (fun n fr => ∃ k : Int, fr 1 = .t (.own true 44 [encTG g]) ∧ fr 3 = .t (.int k) ∧ 0 ≤ k ∧ k + n = g.arcs.length ∧ ∀ j : Int, 0 ≤ j → j < k → arcOk g.n (getr g.arcs j)) g.arcs.length ⟨0, rfl, rfl, by omega, by omega, by omega⟩ ?_
      rintro n fr ⟨k, h1, h18, hk, hn, hp⟩
      refine Ev.know 1 h1 (Ev.know 3 h18 ?_)
      repeat' (first
        | refine Ev.seq ?_
        | refine Ev.block ?_
        | refine Ev.region ?_
        | refine Ev.skip ?_
        | refine Ev.exit ?_
        | refine EvO.nil ?_
        | (apply EvO.moveT; exact rfl; exact rfl; exact rfl)
        | (apply EvO.moveAl; exact rfl; exact rfl; exact rfl)
        | (apply EvO.moveAgg; exact rfl; exact rfl; exact rfl)
        | (apply EvO.assignOwn; exact rfl; exact rfl; exact rfl; exact rfl; exact rfl)
        | (apply EvO.assignT; exact rfl; exact rfl; exact rfl)
        | (apply EvO.assignAl; exact rfl; exact rfl; exact rfl)
        | (apply EvO.assignAgg; exact rfl; exact rfl; exact rfl)
        | (apply EvO.add; exact rfl; exact rfl; omega; exact rfl; exact rfl)
        | (apply EvO.lss; exact rfl; exact rfl; exact rfl; exact rfl)
        | (apply EvO.gtr; exact rfl; exact rfl; exact rfl; exact rfl)
        | (apply EvO.geq; exact rfl; exact rfl; exact rfl; exact rfl)
        | (apply EvO.notP; exact rfl; exact rfl; exact rfl)
        | (apply EvO.not; exact rfl; exact rfl; exact rfl)
        | (apply EvO.pickT; exact rfl; exact rfl; exact rfl; exact rfl)
        | (apply EvO.pickF; exact rfl; exact rfl; exact rfl; exact rfl)
        | (apply EvO.skip; exact rfl; exact rfl; exact rfl)
        | (apply EvO.loadI (t := 3); exact rfl; exact rfl; omega; omega; kernel_rfl; exact rfl; exact rfl)
        | (apply EvO.loadI (t := 42); exact rfl; exact rfl; omega; omega; kernel_rfl; exact rfl; exact rfl)
        | (apply EvO.loadOwn (t := 3); exact rfl; exact rfl; exact rfl; exact rfl; exact rfl; kernel_rfl; exact rfl; exact rfl)
        | (apply EvO.loadOwn (t := 42); exact rfl; exact rfl; exact rfl; exact rfl; exact rfl; kernel_rfl; exact rfl; exact rfl)
        | (apply EvO.loadBoxAgg (t := 55); exact rfl; exact rfl; exact rfl; kernel_rfl; exact rfl; exact rfl; exact rfl)
        | (apply EvO.loadBox (t := 3); exact rfl; exact rfl; exact rfl; exact rfl; kernel_rfl; exact rfl; exact rfl)
        | (apply EvO.loadBox (t := 42); exact rfl; exact rfl; exact rfl; exact rfl; kernel_rfl; exact rfl; exact rfl)
        | (apply EvO.loadRo (t := 3); exact rfl; exact rfl; kernel_rfl; exact rfl; exact rfl)
        | (apply EvO.loadRo (t := 42); exact rfl; exact rfl; kernel_rfl; exact rfl; exact rfl)
        | (apply EvO.loadRoAll (t := 55); exact rfl; kernel_rfl; exact rfl; exact rfl; exact rfl)
        | (apply EvO.fldBox; exact rfl; exact rfl; ((with_reducible first | exact fl_44_0 | exact fl_44_1 | exact fl_55_0 | exact fl_55_1 | exact fl_55_2)); exact rfl; exact rfl; exact rfl)
        | (apply EvO.fldAddr; exact rfl; ((with_reducible first | exact fl_44_0 | exact fl_44_1 | exact fl_55_0 | exact fl_55_1 | exact fl_55_2)); exact rfl; exact rfl)
        | (apply EvO.fldRo; exact rfl; ((with_reducible first | exact fl_44_0 | exact fl_44_1 | exact fl_55_0 | exact fl_55_1 | exact fl_55_2)); exact rfl; exact rfl)
        | (apply EvO.idxRoR (enc := encArc); exact rfl; exact rfl; omega; omega; ((with_reducible first | exact es_42)); exact rfl; exact rfl; exact rfl)
        | (apply EvO.storeR (t := 55) (enc := encArc); exact rfl; exact rfl; exact rfl; omega; omega; exact rfl; kernel_rfl; exact rfl; exact rfl; exact rfl)
        | (apply EvO.boxAgg; exact rfl; kernel_rfl; exact rfl; exact rfl; exact rfl)
        | (apply EvO.idxRoI; exact rfl; exact rfl; omega; omega; ((with_reducible first | exact es_42)); exact rfl; exact rfl)
        | (apply EvO.idxRo; exact rfl; exact rfl; omega; (first | assumption | exact rfl | exact recs_get (by omega) (by omega)); exact rfl; ((with_reducible first | exact es_42)); exact rfl; exact rfl)
        | (apply EvO.idxOwn; exact rfl; exact rfl; exact rfl; omega; (first | omega | (simp <;> omega)); ((with_reducible first | exact el_42)); exact rfl; exact rfl)
        | (apply EvO.storeBoxAgg (t := 55); exact rfl; exact rfl; exact rfl; exact rfl; kernel_rfl; exact rfl; exact rfl; kernel_rfl)
        | (apply EvO.alloc; ((with_reducible first | exact zr_55)); kernel_rfl; exact rfl; exact rfl; exact rfl)
        | (apply EvO.lenRo; exact rfl; kernel_rfl; exact rfl; exact rfl)
        | (apply EvO.lenOwn; exact rfl; exact rfl; kernel_rfl; exact rfl; exact rfl)
        | (apply EvO.lenNil; exact rfl; kernel_rfl; exact rfl; exact rfl)
        | (apply EvO.call; exact (s_l01In _ _ _); exact rfl; exact rfl; exact rfl)
        | (apply Ev.condT; exact rfl)
        | (apply Ev.condF; exact rfl)
        | (apply Ev.cond; exact rfl; all_goals (intro hh; first | replace hh := of_decide_eq_true hh | replace hh := of_decide_eq_false hh | skip))
        | (apply EvO.gsplit; exact rfl; exact rfl; exact rfl; all_goals (intro hh; first | replace hh := of_decide_eq_true hh | replace hh := of_decide_eq_false hh | skip))
        | (apply EvO.move; exact rfl; exact rfl)
        | (apply EvO.assign; exact rfl; exact rfl)
        | refine Ev.ret ?_)
      all_goals first
        | (exfalso; omega)
        | (refine ⟨n - 1, by omega, k + 1, rfl, rfl, by omega, by omega, fun j j0 j1 => ?_⟩
           by_cases hj : j = k
           · subst hj; unfold arcOk; omega
           · exact hp j j0 (by omega))
        | (rw [dec_f (fun e => by have := e.2.2 k hk (by omega); unfold arcOk at this; omega)]; rfl)
        | (rw [dec_t ⟨h, hl, fun j j0 j1 => hp j j0 (by omega)⟩]; rfl)
    · repeat' (first
        | refine Ev.seq ?_
        | refine Ev.block ?_
        | refine Ev.region ?_
        | refine Ev.skip ?_
        | refine Ev.exit ?_
        | refine EvO.nil ?_
        | (apply EvO.moveT; exact rfl; exact rfl; exact rfl)
        | (apply EvO.moveAl; exact rfl; exact rfl; exact rfl)
        | (apply EvO.moveAgg; exact rfl; exact rfl; exact rfl)
        | (apply EvO.assignOwn; exact rfl; exact rfl; exact rfl; exact rfl; exact rfl)
        | (apply EvO.assignT; exact rfl; exact rfl; exact rfl)
        | (apply EvO.assignAl; exact rfl; exact rfl; exact rfl)
        | (apply EvO.assignAgg; exact rfl; exact rfl; exact rfl)
        | (apply EvO.add; exact rfl; exact rfl; omega; exact rfl; exact rfl)
        | (apply EvO.lss; exact rfl; exact rfl; exact rfl; exact rfl)
        | (apply EvO.gtr; exact rfl; exact rfl; exact rfl; exact rfl)
        | (apply EvO.geq; exact rfl; exact rfl; exact rfl; exact rfl)
        | (apply EvO.notP; exact rfl; exact rfl; exact rfl)
        | (apply EvO.not; exact rfl; exact rfl; exact rfl)
        | (apply EvO.pickT; exact rfl; exact rfl; exact rfl; exact rfl)
        | (apply EvO.pickF; exact rfl; exact rfl; exact rfl; exact rfl)
        | (apply EvO.skip; exact rfl; exact rfl; exact rfl)
        | (apply EvO.loadI (t := 3); exact rfl; exact rfl; omega; omega; kernel_rfl; exact rfl; exact rfl)
        | (apply EvO.loadI (t := 42); exact rfl; exact rfl; omega; omega; kernel_rfl; exact rfl; exact rfl)
        | (apply EvO.loadOwn (t := 3); exact rfl; exact rfl; exact rfl; exact rfl; exact rfl; kernel_rfl; exact rfl; exact rfl)
        | (apply EvO.loadOwn (t := 42); exact rfl; exact rfl; exact rfl; exact rfl; exact rfl; kernel_rfl; exact rfl; exact rfl)
        | (apply EvO.loadBoxAgg (t := 55); exact rfl; exact rfl; exact rfl; kernel_rfl; exact rfl; exact rfl; exact rfl)
        | (apply EvO.loadBox (t := 3); exact rfl; exact rfl; exact rfl; exact rfl; kernel_rfl; exact rfl; exact rfl)
        | (apply EvO.loadBox (t := 42); exact rfl; exact rfl; exact rfl; exact rfl; kernel_rfl; exact rfl; exact rfl)
        | (apply EvO.loadRo (t := 3); exact rfl; exact rfl; kernel_rfl; exact rfl; exact rfl)
        | (apply EvO.loadRo (t := 42); exact rfl; exact rfl; kernel_rfl; exact rfl; exact rfl)
        | (apply EvO.loadRoAll (t := 55); exact rfl; kernel_rfl; exact rfl; exact rfl; exact rfl)
        | (apply EvO.fldBox; exact rfl; exact rfl; ((with_reducible first | exact fl_44_0 | exact fl_44_1 | exact fl_55_0 | exact fl_55_1 | exact fl_55_2)); exact rfl; exact rfl; exact rfl)
        | (apply EvO.fldAddr; exact rfl; ((with_reducible first | exact fl_44_0 | exact fl_44_1 | exact fl_55_0 | exact fl_55_1 | exact fl_55_2)); exact rfl; exact rfl)
        | (apply EvO.fldRo; exact rfl; ((with_reducible first | exact fl_44_0 | exact fl_44_1 | exact fl_55_0 | exact fl_55_1 | exact fl_55_2)); exact rfl; exact rfl)
        | (apply EvO.boxAgg; exact rfl; kernel_rfl; exact rfl; exact rfl; exact rfl)
        | (apply EvO.idxRoI; exact rfl; exact rfl; omega; omega; ((with_reducible first | exact es_42)); exact rfl; exact rfl)
        | (apply EvO.idxRo; exact rfl; exact rfl; omega; (first | assumption | exact rfl | exact recs_get (by omega) (by omega)); exact rfl; ((with_reducible first | exact es_42)); exact rfl; exact rfl)
        | (apply EvO.idxOwn; exact rfl; exact rfl; exact rfl; omega; (first | omega | (simp <;> omega)); ((with_reducible first | exact el_42)); exact rfl; exact rfl)
        | (apply EvO.storeBoxAgg (t := 55); exact rfl; exact rfl; exact rfl; exact rfl; kernel_rfl; exact rfl; exact rfl; kernel_rfl)
        | (apply EvO.alloc; ((with_reducible first | exact zr_55)); kernel_rfl; exact rfl; exact rfl; exact rfl)
        | (apply EvO.lenRo; exact rfl; kernel_rfl; exact rfl; exact rfl)
        | (apply EvO.lenOwn; exact rfl; exact rfl; kernel_rfl; exact rfl; exact rfl)
        | (apply EvO.lenNil; exact rfl; kernel_rfl; exact rfl; exact rfl)
        | (apply EvO.call; exact (CallSpec.bT (s_l01In _ _ _) h); exact rfl; exact rfl; exact rfl)
        | (apply Ev.condT; exact rfl)
        | (apply Ev.condF; exact rfl)
        | (apply Ev.cond; exact rfl; all_goals (intro hh; first | replace hh := of_decide_eq_true hh | replace hh := of_decide_eq_false hh | skip))
        | (apply EvO.gsplit; exact rfl; exact rfl; exact rfl; all_goals (intro hh; first | replace hh := of_decide_eq_true hh | replace hh := of_decide_eq_false hh | skip))
        | (apply EvO.move; exact rfl; exact rfl)
        | (apply EvO.assign; exact rfl; exact rfl)
        | refine Ev.ret ?_)
      all_goals first | (exfalso; omega) | (rw [dec_f (fun e => hl e.2.1)]; rfl)
  · repeat' (first
      | refine Ev.seq ?_
      | refine Ev.block ?_
      | refine Ev.region ?_
      | refine Ev.skip ?_
      | refine Ev.exit ?_
      | refine EvO.nil ?_
      | (apply EvO.moveT; exact rfl; exact rfl; exact rfl)
      | (apply EvO.moveAl; exact rfl; exact rfl; exact rfl)
      | (apply EvO.moveAgg; exact rfl; exact rfl; exact rfl)
      | (apply EvO.assignOwn; exact rfl; exact rfl; exact rfl; exact rfl; exact rfl)
      | (apply EvO.assignT; exact rfl; exact rfl; exact rfl)
      | (apply EvO.assignAl; exact rfl; exact rfl; exact rfl)
      | (apply EvO.assignAgg; exact rfl; exact rfl; exact rfl)
      | (apply EvO.add; exact rfl; exact rfl; omega; exact rfl; exact rfl)
      | (apply EvO.lss; exact rfl; exact rfl; exact rfl; exact rfl)
      | (apply EvO.gtr; exact rfl; exact rfl; exact rfl; exact rfl)
      | (apply EvO.geq; exact rfl; exact rfl; exact rfl; exact rfl)
      | (apply EvO.notP; exact rfl; exact rfl; exact rfl)
      | (apply EvO.not; exact rfl; exact rfl; exact rfl)
      | (apply EvO.pickT; exact rfl; exact rfl; exact rfl; exact rfl)
      | (apply EvO.pickF; exact rfl; exact rfl; exact rfl; exact rfl)
      | (apply EvO.skip; exact rfl; exact rfl; exact rfl)
      | (apply EvO.loadI (t := 3); exact rfl; exact rfl; omega; omega; kernel_rfl; exact rfl; exact rfl)
      | (apply EvO.loadI (t := 42); exact rfl; exact rfl; omega; omega; kernel_rfl; exact rfl; exact rfl)
      | (apply EvO.loadOwn (t := 3); exact rfl; exact rfl; exact rfl; exact rfl; exact rfl; kernel_rfl; exact rfl; exact rfl)
      | (apply EvO.loadOwn (t := 42); exact rfl; exact rfl; exact rfl; exact rfl; exact rfl; kernel_rfl; exact rfl; exact rfl)
      | (apply EvO.loadBoxAgg (t := 55); exact rfl; exact rfl; exact rfl; kernel_rfl; exact rfl; exact rfl; exact rfl)
      | (apply EvO.loadBox (t := 3); exact rfl; exact rfl; exact rfl; exact rfl; kernel_rfl; exact rfl; exact rfl)
      | (apply EvO.loadBox (t := 42); exact rfl; exact rfl; exact rfl; exact rfl; kernel_rfl; exact rfl; exact rfl)
      | (apply EvO.loadRo (t := 3); exact rfl; exact rfl; kernel_rfl; exact rfl; exact rfl)
      | (apply EvO.loadRo (t := 42); exact rfl; exact rfl; kernel_rfl; exact rfl; exact rfl)
      | (apply EvO.loadRoAll (t := 55); exact rfl; kernel_rfl; exact rfl; exact rfl; exact rfl)
      | (apply EvO.fldBox; exact rfl; exact rfl; ((with_reducible first | exact fl_44_0 | exact fl_44_1 | exact fl_55_0 | exact fl_55_1 | exact fl_55_2)); exact rfl; exact rfl; exact rfl)
      | (apply EvO.fldAddr; exact rfl; ((with_reducible first | exact fl_44_0 | exact fl_44_1 | exact fl_55_0 | exact fl_55_1 | exact fl_55_2)); exact rfl; exact rfl)
      | (apply EvO.fldRo; exact rfl; ((with_reducible first | exact fl_44_0 | exact fl_44_1 | exact fl_55_0 | exact fl_55_1 | exact fl_55_2)); exact rfl; exact rfl)
      | (apply EvO.boxAgg; exact rfl; kernel_rfl; exact rfl; exact rfl; exact rfl)
      | (apply EvO.idxRoI; exact rfl; exact rfl; omega; omega; ((with_reducible first | exact es_42)); exact rfl; exact rfl)
      | (apply EvO.idxRo; exact rfl; exact rfl; omega; (first | assumption | exact rfl | exact recs_get (by omega) (by omega)); exact rfl; ((with_reducible first | exact es_42)); exact rfl; exact rfl)
      | (apply EvO.idxOwn; exact rfl; exact rfl; exact rfl; omega; (first | omega | (simp <;> omega)); ((with_reducible first | exact el_42)); exact rfl; exact rfl)
      | (apply EvO.storeBoxAgg (t := 55); exact rfl; exact rfl; exact rfl; exact rfl; kernel_rfl; exact rfl; exact rfl; kernel_rfl)
      | (apply EvO.alloc; ((with_reducible first | exact zr_55)); kernel_rfl; exact rfl; exact rfl; exact rfl)
      | (apply EvO.lenRo; exact rfl; kernel_rfl; exact rfl; exact rfl)
      | (apply EvO.lenOwn; exact rfl; exact rfl; kernel_rfl; exact rfl; exact rfl)
      | (apply EvO.lenNil; exact rfl; kernel_rfl; exact rfl; exact rfl)
      | (apply EvO.call; exact (CallSpec.bF (s_l01In _ _ _) h); exact rfl; exact rfl; exact rfl)
      | (apply Ev.condT; exact rfl)
      | (apply Ev.condF; exact rfl)
      | (apply Ev.cond; exact rfl; all_goals (intro hh; first | replace hh := of_decide_eq_true hh | replace hh := of_decide_eq_false hh | skip))
      | (apply EvO.gsplit; exact rfl; exact rfl; exact rfl; all_goals (intro hh; first | replace hh := of_decide_eq_true hh | replace hh := of_decide_eq_false hh | skip))
      | (apply EvO.move; exact rfl; exact rfl)
      | (apply EvO.assign; exact rfl; exact rfl)
      | refine Ev.ret ?_)
    all_goals first | (exfalso; omega) | (rw [dec_f (fun e => h e.1)]; rfl)
end Go.Proofs.Ytphdildkhaeimaa
