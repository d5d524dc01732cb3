/-
  Own work. The law of operations.
-/
import Derived.Test.YtamaghlnjchhbaaPuAb
namespace Go.Pu
open Go Go.RowKit
set_option linter.unusedVariables false

theorem arr_of {α : Type} {xs : Array α} {l : List α} (h : xs.toList = l) : xs = l.toArray := by subst h; simp
theorem op_law {X : Ctx} {Γ : List FE} {ss : List Sig} (hS : Specs X.P ss Γ) : OpLaw X Γ ss := by
  intro st o s nr hd h hnr
  obtain ⟨dst, op, ty, ps, af, gd⟩ := o
  unfold stepOp at h
  have dlt : ∀ d, dst = some d → d < X.N := fun d e => by subst e; simpa [dstOk] using hd
  simp only at h dlt
  split at h
  · exact ⟨fun _ => move_ok (dlt _ rfl) h, fun e => by cases e⟩
  · exact ⟨fun _ => assign_ok (dlt _ rfl) h (fun r lo hi v hv => by
      unfold stepAssign at h
      obtain ⟨v', hv', h⟩ := ok_bind h
      rw [hv] at hv'
      cases hv'
      cases h), fun e => by cases e⟩
  · exact ⟨fun _ => pick_ok (dlt _ rfl) h, fun e => by cases e⟩
  · exact ⟨fun _ => bin_ok (dlt _ rfl) h, fun e => by cases e⟩
  · exact ⟨fun _ => not_ok (dlt _ rfl) h, fun e => by cases e⟩
  · exact ⟨fun _ => neg_ok (dlt _ rfl) h, fun e => by cases e⟩
  · exact ⟨fun _ => conv_ok (dlt _ rfl) h, fun e => by cases e⟩
  · exact ⟨fun _ => nilCheck_ok (dlt _ rfl) h, fun e => by cases e⟩
  · exact ⟨fun _ => extract_ok (dlt _ rfl) h, fun e => by cases e⟩
  · exact ⟨fun e => (by cases e), fun _ => alloc_ok (dlt _ rfl) h⟩
  · exact ⟨fun e => (by cases e), fun _ => box_ok (dlt _ rfl) h⟩
  · exact ⟨fun e => (by cases e), fun _ => build_ok (dlt _ rfl) h⟩
  · exact ⟨fun e => (by cases e), fun _ => buildSlice_ok (dlt _ rfl) h⟩
  · exact ⟨fun e => (by cases e), fun _ => make_ok (dlt _ rfl) h⟩
  · exact ⟨fun _ => makeFunc_ok (dlt _ rfl) h, fun e => by cases e⟩
  · simp only [Except.ok.injEq] at h
    subst h
    exact ⟨fun e => (by cases e), fun _ => makeMap_ok (dlt _ rfl)⟩
  · exact ⟨fun _ => load_ok (dlt _ rfl) h, fun e => by cases e⟩
  · refine ⟨fun e => (by cases e), fun _ => ?_⟩
    have e : nr = false := by
      cases nr with
      | false => rfl
      | true => exact absurd (hnr rfl) (by simp [nrOk])
    subst e
    exact store_ok h
  · exact ⟨fun _ => fieldAddr_ok (dlt _ rfl) h, fun e => by cases e⟩
  · exact ⟨fun _ => field_ok (dlt _ rfl) h, fun e => by cases e⟩
  · exact ⟨fun _ => indexAddr_ok (dlt _ rfl) h, fun e => by cases e⟩
  · exact ⟨fun _ => slice_ok (dlt _ rfl) h, fun e => by cases e⟩
  · rename_i c d
    obtain ⟨callee, args, ats⟩ := c
    simp only at h
    split at h
    · rename_i x t h1 h2
      have e1 := arr_of h1
      have e2 := arr_of h2
      subst e1 e2
      exact ⟨fun _ => len_ok (dlt _ rfl) h, fun e => by cases e⟩
    · rename_i x y h1
      have e1 := arr_of h1
      subst e1
      exact ⟨fun _ => minmax_ok (mn := true) (dlt _ rfl) h, fun e => by cases e⟩
    · rename_i x y h1
      have e1 := arr_of h1
      subst e1
      exact ⟨fun _ => minmax_ok (mn := false) (dlt _ rfl) h, fun e => by cases e⟩
    · rename_i x y t t' h1 h2
      have e1 := arr_of h1
      have e2 := arr_of h2
      subst e1 e2
      split at h
      · rename_i e
        subst e
        unfold stepApp at h
        obtain ⟨vx, hvx, h⟩ := ok_bind h
        obtain ⟨vy, hvy, h⟩ := ok_bind h
        refine ⟨fun e => (by cases e), fun _ => append_ok (dlt _ rfl) hvx hvy h fun e => ?_⟩
        have := hnr e
        simpa [nrOk, hvx] using this
      · cases h
    · rename_i x h1
      obtain ⟨v, hv, h⟩ := ok_bind h
      split at h
      · rename_i f caps
        refine ⟨fun e => (by cases e), fun _ => call_ok hS (dlt _ rfl) hv h fun e sg hsg => ?_⟩
        have := hnr e
        simpa [nrOk, hv, hsg] using this
      · cases h
    · cases h
  · cases h
/-- From the body to the contract. -/
theorem spec {P : Program} {ss : List Sig} {Γ : List FE} {an : Ann} {s : Sig} {stm : Stm} {fn : s.p.den → Option s.r.den} (hm : P.follows .mixedOrders = true) (hS : Specs P ss Γ) (h : cFunc P ss an s = .ok stm)
    (hname : (match P.funcs[s.f]? with | some F => F.name == "runtime.NumGoroutine" | none => true) = false) (hfn : ∀ x, fn x = stm.den Γ [] s.r [⟨s.p, x⟩]) : CallSpec P s fn :=
  spec_of hm (fun X hX => by subst hX; exact op_law hS) h hname hfn
end Go.Pu
