/-
  Own work. Contracts; from the body to the contract.
-/
import Derived.Test.YtamaghlnjchhbaaPuW
namespace Go.Pu
open Go Go.RowKit
set_option linter.unusedVariables false

structure Pre (P : Program) (s : Sig) (x : s.p.den) (w : World) (g : G) (args : Array Value) : Prop where
  size : args.size = s.ps.length
  slot : ∀ i, PRep P w g (((preSt s).slot i).enc [⟨s.p, x⟩]) (args.getD i undef)
  row : ∀ l row, ((preSt s).rk l.1).rows [⟨s.p, x⟩] l.1 l.2 = some row → RowRep P w g l row
  S : ∀ b, g.S b → b < w.heap.size
  own : ∀ b l, g.own b = some l → b < w.heap.size ∧ ¬ g.S b
structure Post (P : Program) (s : Sig) (y : s.r.den) (w : World) (g : G) (v : Value) (w' : World) : Prop where
  chg : Chg (fun b => ∃ l, g.own b = some l) w.heap.size w w'
  ghost : ∃ g' : G, (∀ b l, g'.own b = some l → ((∃ l, g.own b = some l) ∨ w.heap.size ≤ b) ∧ b < w'.heap.size) ∧ (∀ j, s.flags[j]? = some true → g'.hdr (j, []) = g.hdr (j, [])) ∧
    PRep P w' g' (((postSt s).slot 0).enc [⟨s.r, y⟩]) v ∧ ∀ l row, ((postSt s).rk l.1).rows [⟨s.r, y⟩] l.1 l.2 = some row → RowRep P w' g' l row
structure CallSpec (P : Program) (s : Sig) (fn : s.p.den → Option s.r.den) : Prop where
  known : ∃ F, P.funcs[s.f]? = some F ∧ (F.name == "runtime.NumGoroutine") = false ∧ F.body.isNone = false
  run : ∀ (x : s.p.den) (y : s.r.den) (w : World) (g : G) (args : Array Value), Pre P s x w g args → fn x = some y → Calls P s.f args w (fun e w' => ∃ v, e = .returned v ∧ Post P s y w g v w')
def Specs (P : Program) (ss : List Sig) (Γ : List FE) : Prop := ∀ s ∈ ss, ∃ fn : s.p.den → Option s.r.den, findF Γ s.key = some ⟨s.key, s.p, s.r, fn⟩ ∧ CallSpec P s fn

theorem initSlots_length (m : Nat) : ∀ (ps : List Par) (i r : Nat), (initSlots m i r ps).length = ps.length
  | [], _, _ => rfl
  | p :: ps, i, r => by simp [initSlots, initSlots_length m ps]
theorem fixed_flags : ∀ (ps : List Par) (r j : Nat), (ps.flatMap Par.flags)[j]? = some true → r + j ∈ fixed r ps
  | [], r, j, h => by simp at h
  | p :: ps, r, j, h => by
    have hfl : p.flags.length = p.nroots := by cases p <;> simp [Par.flags, Par.nroots]
    simp only [List.flatMap_cons, List.getElem?_append, hfl] at h
    simp only [fixed, List.mem_append]
    split at h
    · rename_i hj
      left
      cases p with
      | own agg t io =>
        cases io with
        | true => simp only [Par.nroots] at hj; simp [List.mem_range'_1]; omega
        | false => simp only [Par.flags, List.getElem?_replicate] at h; split at h <;> simp at h
      | _ => simp [Par.nroots] at hj
    · rename_i hj
      right
      have := fixed_flags ps (r + p.nroots) (j - p.nroots) h
      rwa [show r + p.nroots + (j - p.nroots) = r + j from by omega] at this
def oneRes (tmps : Array Value) : ResultVar → Sem Value
  | .tmp t => pure (tmps.getD t undef)
  | .cell b t => do loadVar t (← asAddr (tmps.getD b undef))
section
variable {X : Ctx} {D : Nat → Prop} {Γ : List FE} {st : St} {ρ : Env} {a : Act} {w : World} {g : G}
theorem resOne_ok (hi : TInv X D st ρ a w g) {v : ResultVar} {x : Bool × List SC} (h : resOne X.P st v = .ok x) :
    ∃ u, (oneRes a.tmps v).run X.P w = .ok u w ∧ (if x.1 then AggRep w g (encL ρ x.2) u else ∃ c, x.2 = [c] ∧ CRep w g (c.enc ρ) u) := by
  cases v with
  | tmp t =>
    simp only [resOne] at h
    refine ⟨a.tmps.getD t undef, rfl, ?_⟩
    have hs := hi.inv.slot t
    split at h
    · rename_i c hc
      cases h
      rw [hc] at hs
      exact ⟨c, rfl, hs⟩
    · rename_i xs hc
      cases h
      rw [hc] at hs
      exact hs
    · cases h
  | cell b t =>
    simp only [resOne] at h
    split at h
    · rename_i r hc
      split at h
      · rename_i e cells hr
        obtain ⟨sv, hv, h⟩ := ok_bind h
        have hs := hi.inv.slot b
        rw [hc] at hs
        have hs : CRep w g (.hd (r, [])) (a.tmps.getD b undef) := by simpa [SV.enc, SC.enc, PRep] using hs
        have hu := hd_eq hs
        obtain ⟨bb, base, f, q1, q2, q3⟩ := box_cells hi hr
        rw [q1] at hu
        obtain ⟨u, hu1, hu2⟩ := load_cells (D := NoD) (d := 0) (ty := t) (ps := "") (af := #[]) (gd := none) (x := .tmp 0) hv (b := bb) (o := base) (f := f) (fun h => h) q3 (ρ := fun _ => .pointer (some ⟨bb, base, none⟩)) rfl
        have hrun := hu1 w (fun _ => RelD.refl _ _)
        have hl : (loadVar t ⟨bb, base, none⟩).run X.P w = .ok u w := by
          simp only [execOp, Instr.loadAt, Instr.sureAddr, Sem.run_bind, Sem.run_pure, Result.andThen_ok] at hrun
          generalize (loadVar t ⟨bb, base, none⟩).run X.P w = R at hrun ⊢
          cases R with
          | ok z w2 => simp only [Result.andThen_ok, Result.ok.injEq, Next.value.injEq] at hrun; rw [hrun.1, hrun.2]
          | halt z w2 => simp [Result.andThen] at hrun
        refine ⟨u, by simp only [oneRes, hu, asAddr, Sem.run_bind, Sem.run_pure, Result.andThen_ok]; exact hl, ?_⟩
        split at h
        · cases h; exact ⟨_, rfl, hu2⟩
        · cases h; exact hu2
        · cases h
      · cases h
    · cases h
theorem resAll_ok (hi : TInv X D st ρ a w g) : ∀ (vs : List ResultVar) (xs : List (Bool × List SC)), resAll X.P st vs = .ok xs → ∃ us : List Value, us.length = xs.length ∧
    (vs.mapM (oneRes a.tmps)).run X.P w = .ok us w ∧
    ∀ (k : Nat) (x : Bool × List SC), xs[k]? = some x → ∃ u, us[k]? = some u ∧ (if x.1 then AggRep w g (encL ρ x.2) u else ∃ c, x.2 = [c] ∧ CRep w g (c.enc ρ) u)
  | [], xs, h => by
    simp only [resAll, Except.ok.injEq] at h
    subst h
    exact ⟨[], rfl, by simp, fun k x h => by simp at h⟩
  | v :: vs, xs, h => by
    simp only [resAll] at h
    obtain ⟨x, hx, h⟩ := ok_bind h
    obtain ⟨xs', hxs, h⟩ := ok_bind h
    simp only [Except.ok.injEq] at h
    subst h
    obtain ⟨u, h1, h2⟩ := resOne_ok hi hx
    obtain ⟨us, e1, e2, e3⟩ := resAll_ok hi vs xs' hxs
    refine ⟨u :: us, by simp [e1], ?_, fun k y hy => ?_⟩
    · rw [List.mapM_cons]
      simp only [Sem.run_bind, h1, Result.andThen_ok, e2, Sem.run_pure]
    · cases k with
      | zero => simp only [List.getElem?_cons_zero, Option.some.injEq] at hy; subst hy; exact ⟨u, rfl, h2⟩
      | succ k => simpa using e3 k y (by simpa using hy)
theorem results_ok (hi : TInv X D st ρ a w g) {F : Func} {xs : List (Bool × List SC)} (h : resAll X.P st F.results.toList = .ok xs) (hne : xs.isEmpty = false) : ∃ v, (results F a.tmps).run X.P w = .ok v w ∧ PRep X.P w g ((resPut xs).enc ρ) v := by
  obtain ⟨us, e1, e2, e3⟩ := resAll_ok hi _ _ h
  have hm : (F.results.mapM (oneRes a.tmps)).run X.P w = .ok us.toArray w := by
    rw [Array.mapM_eq_mapM_toList]
    simp only [Sem.run_map, e2]
    rfl
  have hrun : (results F a.tmps).run X.P w = .ok (if h : us.toArray.size = 1 then us.toArray[0] else .tuple us.toArray) w := by
    have e : results F a.tmps = (do
        let vs ← F.results.mapM (oneRes a.tmps)
        pure (if h : vs.size = 1 then vs[0] else .tuple vs)) := by
      unfold results
      have : (fun x : ResultVar => match x with | .tmp t => (pure (a.tmps.getD t undef) : Sem Value) | .cell b t => do loadVar t (← asAddr (a.tmps.getD b undef))) = oneRes a.tmps := by
        funext v; cases v <;> rfl
      rw [← this]
      rfl
    rw [e]
    simp only [Sem.run_bind, Sem.run_pure, hm, Result.andThen_ok]
  refine ⟨_, hrun, ?_⟩
  have tup : us.length ≠ 1 → PRep X.P w g (.tup (xs.map (encR ρ))) (if h : us.toArray.size = 1 then us.toArray[0] else .tuple us.toArray) := fun hl => by
    rw [dif_neg (by simpa using hl)]
    refine ⟨us.toArray, rfl, by simp [e1], fun k r hr => ?_⟩
    rw [List.getElem?_map, Option.map_eq_some_iff] at hr
    obtain ⟨x, hx, rfl⟩ := hr
    obtain ⟨u, hu, hh⟩ := e3 k x hx
    refine ⟨u, by simpa using hu, ?_⟩
    unfold encR
    split at hh
    · rename_i hb; rw [if_pos hb]; exact hh
    · rename_i hb
      rw [if_neg hb]
      obtain ⟨c, hc, hr⟩ := hh
      rw [hc]; simp only [encL]; exact hr
  match xs, e1, e3, hne, tup with
  | [], _, _, hne, _ => cases hne
  | [(b, cs)], e1, e3, _, _ =>
    match us, e1, e3 with
    | [u], _, e3 =>
      obtain ⟨u', hu, hh⟩ := e3 0 (b, cs) rfl
      simp only [List.getElem?_cons_zero, Option.some.injEq] at hu
      subst hu
      cases b with
      | true => exact hh
      | false =>
        obtain ⟨c, hc, hr⟩ := hh
        simp only at hc
        subst hc
        exact hr
  | x :: x2 :: xs, e1, _, _, tup =>
    have hp : resPut (x :: x2 :: xs) = .tup (x :: x2 :: xs) := by { obtain ⟨b, cs⟩ := x; cases b <;> rcases cs with _ | ⟨c, _ | ⟨c2, cs⟩⟩ <;> rfl }
    rw [hp]
    exact tup (by rw [e1]; simp)
end
/-- From the body to the contract. -/
theorem spec_of {P : Program} {ss : List Sig} {Γ : List FE} {an : Ann} {s : Sig} {stm : Stm} {fn : s.p.den → Option s.r.den} (hm : P.follows .mixedOrders = true) (hop : ∀ X : Ctx, X.P = P → OpLaw X Γ ss) (h : cFunc P ss an s = .ok stm)
    (hname : (match P.funcs[s.f]? with | some F => F.name == "runtime.NumGoroutine" | none => true) = false) (hfn : ∀ x, fn x = stm.den Γ [] s.r [⟨s.p, x⟩]) : CallSpec P s fn := by
  unfold cFunc at h
  split at h
  · cases h
  · rename_i F hF
    split at h
    · cases h
    · rename_i c hb
      by_cases hc : (an.N = F.ntmps ∧ s.ps.length ≤ F.ntmps)
      · rw [if_neg (fun hh => hh hc)] at h
        obtain ⟨hN, hle⟩ := hc
        rw [hF] at hname
        refine ⟨⟨F, hF, hname, by rw [hb]; rfl⟩, fun x y w g args hp hy => ?_⟩
        refine calls_of_wp hF hb ?_
        let X : Ctx := ⟨P, F.ntmps, w.heap.size, w, g.S, fun b => ∃ l, g.own b = some l, fun j => g.hdr (j, [])⟩
        have hsz : (args ++ Array.replicate (F.ntmps - args.size) undef).size = F.ntmps := by rw [Array.size_append, Array.size_replicate, hp.size]; omega
        have hlen : (preSt s).slots.length = s.ps.length := initSlots_length _ _ _ _
        have hi : TInv X NoD (initSt F.ntmps s) [⟨s.p, x⟩] { tmps := args ++ Array.replicate (F.ntmps - args.size) undef, defers := [] } w g := by
          refine ⟨rfl, ⟨hsz, rfl, ⟨Chg.refl _ _ _, Nat.le_refl _, fun b hb => ⟨hp.S b hb, .inl hb⟩, fun b l hl => ⟨.inl ⟨l, hl⟩, hp.own b l hl⟩⟩, fun i => ?_, fun l row hl => hp.row l row hl⟩, fun r _ => rfl, fun b hb => hb.elim⟩
          show PRep P w g (((initSt F.ntmps s).slot i).enc [⟨s.p, x⟩]) ((args ++ Array.replicate (F.ntmps - args.size) undef).getD i undef)
          have hsl : (initSt F.ntmps s).slot i = (((preSt s).slots ++ List.replicate (F.ntmps - (preSt s).slots.length) SV.und).getD i SV.junk) := rfl
          rw [hsl]
          by_cases hi : i < s.ps.length
          · have e1 : ((preSt s).slots ++ List.replicate (F.ntmps - (preSt s).slots.length) SV.und).getD i .junk = (preSt s).slot i := by
              unfold St.slot
              rw [List.getD, List.getD, List.getElem?_append_left (by omega)]
            have e2 : (args ++ Array.replicate (F.ntmps - args.size) undef).getD i undef = args.getD i undef := by
              rw [Array.getD_eq_getD_getElem?, Array.getD_eq_getD_getElem?, Array.getElem?_append_left (by rw [hp.size]; exact hi)]
            rw [e1, e2]; exact hp.slot i
          · have e1 : ((preSt s).slots ++ List.replicate (F.ntmps - (preSt s).slots.length) SV.und).getD i .junk = .und ∨ ((preSt s).slots ++ List.replicate (F.ntmps - (preSt s).slots.length) SV.und).getD i .junk = .junk := by
              rw [List.getD, List.getElem?_append_right (by omega), List.getElem?_replicate]
              split
              · exact .inl rfl
              · exact .inr rfl
            have e2 : (args ++ Array.replicate (F.ntmps - args.size) undef).getD i undef = undef := by
              rw [Array.getD_eq_getD_getElem?, Array.getElem?_append_right (by rw [hp.size]; omega), Array.getElem?_replicate]
              split <;> rfl
            rw [e2]
            rcases e1 with e1 | e1 <;> rw [e1]
            · rfl
            · trivial
        have hden : stm.den Γ [] s.r [⟨s.p, x⟩] = some y := by rw [← hfn]; exact hy
        refine Code.wp_mono (fun e a' w' hb' => ?_) (code_ok (X := X) hm (hop X rfl) (jump_law X) hN c _ _ stm h [] y _ _ w g hi hden)
        obtain ⟨st', ρ1, g', s', q1, q2, q3⟩ := hb'
        have fin : cFin P F s st' = .ok s' → a'.defers = [] ∧ ∃ v, (results F a'.tmps).run P w' = .ok v w' ∧ ∃ v', (Ending.returned v) = .returned v' ∧ Post P s y w g v' w' := fun hfin => by
          refine ⟨q2.inv.nodef, ?_⟩
          unfold cFin at hfin
          obtain ⟨cs, hcs, hfin⟩ := ok_bind hfin
          split at hfin
          · cases hfin
          · rename_i hne
            obtain ⟨⟨t, xs⟩, hj, hfin⟩ := ok_bind hfin
            simp only [Except.ok.injEq] at hfin
            subst hfin
            obtain ⟨v, hv, hrep⟩ := results_ok q2 hcs (by simpa using hne)
            refine ⟨v, hv, v, rfl, ?_⟩
            let X1 : Ctx := { X with N := 1 }
            have hi1 : TInv X1 NoD { st' with slots := [resPut cs] } ([] ++ ([⟨s.p, x⟩] ++ ρ1)) { tmps := #[v], defers := [] } w' g' := by
              refine ⟨q2.typ, ⟨rfl, rfl, ⟨q2.inv.ok.chg, q2.inv.ok.base, q2.inv.ok.S, q2.inv.ok.own⟩, fun i => ?_, q2.inv.row⟩, q2.fixd, fun b hb => hb.elim⟩
              cases i with
              | zero => exact hrep
              | succ i => trivial
            have ht : t = s.r := jump_ty hj rfl
            subst ht
            obtain ⟨g2, hi2⟩ := jump_law X1 _ _ _ _ [] _ _ w' g' hj hi1 rfl
            have hy2 : (mkv s.r (xs.map (At.get ([] ++ ([⟨s.p, x⟩] ++ ρ1))))).1 = y := by
              simp only [Stm.den, dif_pos, Option.some.injEq] at q3
              exact q3
            rw [hy2] at hi2
            refine ⟨hi2.inv.ok.chg, g2, fun b l hl => ?_, fun j hj => ?_, hi2.inv.slot 0, hi2.inv.row⟩
            · obtain ⟨h1, h2, _⟩ := hi2.inv.ok.own b l hl
              exact ⟨h1, h2⟩
            · have := fixed_flags s.ps 0 j hj
              rw [Nat.zero_add] at this
              exact hi2.fixd j this
        cases e with
        | normal => exact fin q1
        | ret => exact fin q1
        | exit id => cases q1
        | goto l => cases q1
        | panic ch => cases q1
        | outgrown => cases q1
      · rw [if_pos hc] at h; cases h
end Go.Pu
