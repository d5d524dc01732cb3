/-
  Own work. The translation is sound: regions, blocks, loops, joins.
-/
import Derived.Test.YtamaghlnjchhbaaPuS
import Derived.LoopN
namespace Go.Pu
open Go Go.RowKit
set_option linter.unusedVariables false

abbrev NoD : Nat → Prop := fun _ => False
def OpLaw (X : Ctx) (Γ : List FE) (ss : List Sig) : Prop := ∀ (st : St) (o : Oper) (s : Step) (nr : Bool), dstOk X.N o = true → stepOp X.P ss st o = .ok s → (nr = true → nrOk ss st o = true) → (isQ o.op = true → QStep X NoD Γ st o s) ∧ (isQ o.op = false → WStep X NoD Γ nr st o s)
def JumpLaw (X : Ctx) : Prop := ∀ (H st : St) (t : Ty) (xs : List At) (ρ0 ρ1 : Env) (a : Act) (w : World) (g : G), jump H st = .ok (t, xs) → TInv X NoD st (ρ0 ++ ρ1) a w g → H.ts = ρ0.map V.t ++ [t] → ∃ g', TInv X NoD H (ρ0 ++ [⟨t, (mkv t (xs.map (At.get (ρ0 ++ ρ1)))).1⟩]) a w g'
section
variable {X : Ctx} {Γ : List FE} {ss : List Sig} {st : St} {ρ : Env} {a : Act} {w : World} {g : G}
theorem evalB_prefix : ∀ (es : List Ex) (ρ ρ' : Env), evalB Γ es ρ = some ρ' → ∃ ρ1, ρ' = ρ ++ ρ1
  | [], ρ, ρ', h => ⟨[], by rw [evalB_nil h, List.append_nil]⟩
  | e :: es, ρ, ρ', h => by
    obtain ⟨v, _, h⟩ := evalB_cons h
    obtain ⟨ρ1, rfl⟩ := evalB_prefix es _ _ h
    exact ⟨v :: ρ1, by simp⟩
theorem binds_den {c : List Ty} {r : Ty} {s : Stm} {o : Out c r} : ∀ (es : List (Ex × Ty)) (ρ : Env), (binds es s).den Γ c r ρ = some o → ∃ ρ', evalB Γ (es.map (·.1)) ρ = some ρ' ∧ s.den Γ c r ρ' = some o
  | [], ρ, h => ⟨ρ, rfl, h⟩
  | e :: es, ρ, h => by
    simp only [binds, Stm.den] at h
    rw [Ex.den_eq, Option.bind_eq_some_iff] at h
    obtain ⟨v, hv, h⟩ := h
    obtain ⟨ρ', h1, h2⟩ := binds_den es _ h
    exact ⟨ρ', by simp only [List.map_cons, evalB, hv, Option.bind_some]; exact h1, h2⟩
theorem getD_some {t : Array Value} {s : Nat} {v : Value} (h : t.getD s undef = v) (hv : v ≠ undef) : t[s]? = some v := by
  rw [Array.getD_eq_getD_getElem?] at h
  cases hs : t[s]? with
  | none => rw [hs] at h; exact absurd h.symm hv
  | some u => rw [hs] at h; simp only [Option.getD_some] at h; rw [h]
theorem guard_ok (hi : TInv X NoD st ρ a w g) {ops : Array Oper} {o : Oper} {gd : Gd} (h : guardOf ops st o.guard = .ok gd) :
    (gd = .yes → Region.wanted o (yielded ops a.tmps) = true) ∧ (gd = .no → Region.wanted o (yielded ops a.tmps) = false) ∧
    ∀ t x, gd = .ask t x → ∀ b, (x.get ρ).bool = b → TInv X NoD (st.put t (.c (.v (.bool b)))) ρ a w g := by
  unfold Region.wanted
  cases hg : o.guard with
  | none =>
    rw [hg] at h
    simp only [guardOf, Except.ok.injEq] at h
    subst h
    exact ⟨fun _ => rfl, (fun h => (by cases h)), (fun _ _ h => (by cases h))⟩
  | some jw =>
    obtain ⟨j, want⟩ := jw
    rw [hg] at h
    simp only [guardOf] at h
    cases ht : (ops[j]?).bind (·.dst) with
    | none => rw [ht] at h; cases h
    | some t =>
      rw [ht] at h
      simp only at h
      have hy : yielded ops a.tmps j = match a.tmps[t]? with | some (.bool b) => some b | _ => none := by
        unfold yielded; rw [ht]; rfl
      have hs := hi.inv.slot t
      have hval : ∀ b, a.tmps.getD t undef = .bool b → yielded ops a.tmps j = some b := fun b hb => by
        rw [hy, getD_some hb (by intro e; cases e)]
      split at h
      · rename_i b hb
        rw [hb] at hs
        have hv : a.tmps.getD t undef = .bool b := by
          have : CRep w g (.bool b) (a.tmps.getD t undef) := by simpa [SV.enc, SC.enc, At.get, V.c, PRep] using hs
          exact crep_bool this
        have hy := hval b hv
        simp only [Except.ok.injEq] at h
        subst h
        refine ⟨fun h => ?_, fun h => ?_, fun _ _ h => ?_⟩
        · split at h
          · rename_i hbw; simp only [hy]; simpa using hbw
          · cases h
        · split at h
          · cases h
          · rename_i hbw; simp only [hy]; simpa using hbw
        · split at h <;> cases h
      · rename_i hb
        rw [hb] at hs
        have hv : a.tmps.getD t undef = undef := hs
        have hy : yielded ops a.tmps j = none := by
          rw [hy]
          cases hq : a.tmps[t]? with
          | none => rfl
          | some u =>
            have : u = undef := by rw [Array.getD_eq_getD_getElem?, hq] at hv; exact hv
            subst this; rfl
        simp only [Except.ok.injEq] at h
        subst h
        exact ⟨fun h => (by cases h), fun _ => (by simp [hy]), fun _ _ h => (by cases h)⟩
      · rename_i q hb
        obtain ⟨ty, hty, h⟩ := ok_bind h
        split at h
        · rename_i hq
          subst hq
          simp only [Except.ok.injEq] at h
          subst h
          refine ⟨fun h => (by cases h), fun h => (by cases h), fun t' x h b hbv => ?_⟩
          simp only [Gd.ask.injEq] at h
          obtain ⟨e1, e2⟩ := h
          subst e1 e2
          rw [hb] at hs
          have hval : a.tmps.getD t undef = .bool b := by
            have : CRep w g (V.c ((At.r q).get ρ)) (a.tmps.getD t undef) := by simpa [SV.enc, SC.enc, PRep] using hs
            rw [bool_get hi hty, hbv] at this
            exact crep_bool this
          refine ⟨hi.typ, ⟨hi.inv.size, hi.inv.nodef, hi.inv.ok, fun s => ?_, hi.inv.row⟩, hi.fixd, hi.dirt⟩
          show PRep X.P w g (((st.put t (.c (.v (.bool b)))).slot s).enc ρ) (a.tmps.getD s undef)
          rcases St.slot_put st t s (.c (.v (.bool b))) with ⟨e, rfl⟩ | ⟨e, hs'⟩ | e
          · rw [e, hval]
            simp only [SV.enc, SC.enc, At.get, V.c, PRep]; exact .bool _
          · rw [e]; exact hi.inv.slot s
          · rw [e]; trivial
        · cases h
      · cases h
/-- What the rest needs. -/
def Behind (X : Ctx) (Γ : List FE) {c : List Ty} {r : Ty} (o : Out c r) (ρ : Env) (k : St → M Stm) (a : Act) (w : World) : Prop :=
  ∃ st' ρ1 g' s', k st' = .ok s' ∧ TInv X NoD st' (ρ ++ ρ1) a w g' ∧ s'.den Γ c r (ρ ++ ρ1) = some o
theorem cGd_ok (hop : OpLaw X Γ ss) {ops : Array Oper} {op : Oper} {nr : Bool} {k : St → M Stm} {s : Stm} {c : List Ty} {r : Ty} {o : Out c r} {Q : Act → World → Prop} {rest : List (Oper × Bool)}
    (h : cGd X.P ss X.N ops op nr st k = .ok s) (hi : TInv X NoD st ρ a w g) (hd : s.den Γ c r ρ = some o)
    (hk : ∀ a' w', Behind X Γ o ρ k a' w' → LexL NoD X.P ops Q rest a' w') : LexL NoD X.P ops Q ((op, nr) :: rest) a w := by
  unfold cGd at h
  obtain ⟨gd, hg, h⟩ := ok_bind h
  obtain ⟨g1, g2, _⟩ := guard_ok hi hg
  split at h
  · have hwn := g1 rfl
    split at h
    · cases h
    · rename_i hnr
      unfold cStep at h
      split at h
      · cases h
      · rename_i hst
        obtain ⟨x, hx, h⟩ := ok_bind h
        obtain ⟨s1, hs1, h⟩ := ok_bind h
        simp only [Except.ok.injEq] at h
        subst h
        obtain ⟨ρ', hev, hd'⟩ := binds_den _ _ hd
        obtain ⟨ρ1, rfl⟩ := evalB_prefix _ _ _ hev
        simp only [Bool.not_eq_true', Bool.not_eq_false, Bool.and_eq_true] at hst
        obtain ⟨⟨hw, hk0⟩, hdst⟩ := hst
        obtain ⟨o1, o2⟩ := hop st op x nr hdst hx (fun e => by simpa [e] using hnr)
        unfold LexL
        by_cases hq : isQ op.op = true
        · rw [if_pos hq]
          obtain ⟨v, h1, g', h2⟩ := o1 hq ρ _ a w g hi hw hev
          exact ⟨v, .inl ⟨hwn, h1⟩, hk _ _ ⟨_, ρ1, g', s1, hs1, h2, hd'⟩⟩
        · rw [if_neg hq, if_pos hwn]
          refine Oper.wp_mono (fun a' w' ⟨h1, g', h2⟩ => ⟨h1, hk _ _ ⟨_, ρ1, g', s1, hs1, h2, hd'⟩⟩) (o2 (by simpa using hq) ρ _ a w g hi hw hk0 hev)
  · have hwn := g2 rfl
    split at h
    · rename_i d hdst
      split at h
      · rename_i hlt
        have hi' : TInv X NoD (st.put d .und) ρ (a.put op.dst undef) w g := by
          rw [hdst]; exact hi.put (by simpa using hlt) rfl
        have hb : Behind X Γ o ρ k (a.put op.dst undef) w := ⟨_, [], g, s, h, by rw [List.append_nil]; exact hi', by rw [List.append_nil]; exact hd⟩
        unfold LexL
        split
        · exact ⟨undef, .inr ⟨hwn, rfl⟩, hk _ _ hb⟩
        · rw [if_neg (by rw [hwn]; exact Bool.false_ne_true)]
          exact hk _ _ hb
      · cases h
    · cases h
  · cases h
theorem cOp_ok (hop : OpLaw X Γ ss) {ops : Array Oper} {op : Oper} {nr : Bool} {k : St → M Stm} {s : Stm} {c : List Ty} {r : Ty} {o : Out c r} {Q : Act → World → Prop} {rest : List (Oper × Bool)}
    (h : cOp X.P ss X.N ops op nr st k = .ok s) (hi : TInv X NoD st ρ a w g) (hd : s.den Γ c r ρ = some o)
    (hk : ∀ a' w', Behind X Γ o ρ k a' w' → LexL NoD X.P ops Q rest a' w') : LexL NoD X.P ops Q ((op, nr) :: rest) a w := by
  unfold cOp at h
  obtain ⟨gd, hg, h⟩ := ok_bind h
  have g3 := (guard_ok hi hg).2.2
  split at h
  · rename_i t x
    obtain ⟨s1, h1, h⟩ := ok_bind h
    obtain ⟨s2, h2, h⟩ := ok_bind h
    simp only [Except.ok.injEq] at h
    subst h
    simp only [Stm.den] at hd
    cases hb : (x.get ρ).bool with
    | true => rw [hb] at hd; exact cGd_ok hop h1 (g3 t x rfl true hb) hd hk
    | false => rw [hb] at hd; exact cGd_ok hop h2 (g3 t x rfl false hb) hd hk
  · exact cGd_ok hop h hi hd hk
theorem behind_trans {c : List Ty} {r : Ty} {o : Out c r} {ρ1 : Env} {k : St → M Stm} (h : Behind X Γ o (ρ ++ ρ1) k a w) : Behind X Γ o ρ k a w := by
  obtain ⟨st', ρ2, g', s', h1, h2, h3⟩ := h
  exact ⟨st', ρ1 ++ ρ2, g', s', h1, by rw [← List.append_assoc]; exact h2, by rw [← List.append_assoc]; exact h3⟩
theorem cOps_ok (hop : OpLaw X Γ ss) {ops : Array Oper} {c : List Ty} {r : Ty} {o : Out c r} {Q : Act → World → Prop} {k : St → M Stm} : ∀ (l : List (Oper × Bool)) (st : St) (s : Stm) (ρ : Env) (a : Act) (w : World) (g : G),
    cOps X.P ss X.N ops l st k = .ok s → TInv X NoD st ρ a w g → s.den Γ c r ρ = some o → (∀ a' w', Behind X Γ o ρ k a' w' → Q a' w') → LexL NoD X.P ops Q l a w
  | [], st, s, ρ, a, w, g, h, hi, hd, hk => by
    unfold LexL
    exact hk _ _ ⟨st, [], g, s, h, by rw [List.append_nil]; exact hi, by rw [List.append_nil]; exact hd⟩
  | (op, nr) :: rest, st, s, ρ, a, w, g, h, hi, hd, hk => by
    simp only [cOps] at h
    refine cOp_ok hop h hi hd fun a' w' hb => ?_
    obtain ⟨st', ρ1, g', s', h1, h2, h3⟩ := hb
    exact cOps_ok hop rest st' s' _ a' w' g' h1 h2 h3 fun a2 w2 hb2 => hk _ _ (behind_trans hb2)
theorem drew_inv (hi : TInv X NoD st ρ a w g) : TInv X NoD st ρ a { w with drawn := w.drawn + 1 } g := by
  have keep : ∀ {q v}, CRep w g q v → CRep { w with drawn := w.drawn + 1 } g q v := fun {q v} h => by
    induction h with
    | int k z => exact .int k z
    | bool b => exact .bool b
    | nil => exact .nil
    | gone v => exact .gone v
    | ro0 rg a cap => exact .ro0 rg a cap
    | ro rg els b off n cap s f hn hc hm hS hs hsz hcell hrep ih => exact .ro rg els b off n cap s f hn hc hm hS hs hsz hcell ih
    | rp rg cells b off f hS hcell hrep ih => exact .rp rg cells b off f hS hcell ih
    | hd l v hv => exact .hd l v hv
    | fn f caps vs hs hrep ih => exact .fn f caps vs hs ih
    | sub l s lo n v hv => exact .sub l s lo n v hv
    | both x y v _ _ ih1 ih2 => exact .both x y v ih1 ih2
  have pkeep : ∀ {q v}, PRep X.P w g q v → PRep X.P { w with drawn := w.drawn + 1 } g q v := fun {q v} h => by
    have hagg : ∀ {xs v}, AggRep w g xs v → AggRep { w with drawn := w.drawn + 1 } g xs v := fun {xs v} ⟨vs, h1, h2, h3⟩ => ⟨vs, h1, h2, fun k x hx => by obtain ⟨u, hu, hr⟩ := h3 k x hx; exact ⟨u, hu, keep hr⟩⟩
    cases q with
    | c x => exact keep h
    | agg xs => exact hagg h
    | ad l e i k => exact h
    | ra rg cells => obtain ⟨b, off, f, h1, h2, h3⟩ := h; exact ⟨b, off, f, h1, h2, fun k x hx => ⟨(h3 k x hx).1, keep (h3 k x hx).2⟩⟩
    | tup rs =>
      obtain ⟨vs, h1, h2, h3⟩ := h
      refine ⟨vs, h1, h2, fun k r hr => ?_⟩
      obtain ⟨u, hu, hrr⟩ := h3 k r hr
      refine ⟨u, hu, ?_⟩
      cases r with
      | one x => exact keep hrr
      | agg xs => exact hagg hrr
    | und => exact h
    | junk => trivial
  have hok := hi.inv.ok
  refine ⟨hi.typ, ⟨hi.inv.size, hi.inv.nodef, ⟨hok.chg.trans ⟨rfl, rfl, rfl, Nat.le_refl _, fun _ _ _ => rfl⟩, hok.base, hok.S, hok.own⟩, fun s => pkeep (hi.inv.slot s), fun l row hl => ?_⟩, hi.fixd, hi.dirt⟩
  have := hi.inv.row l row hl
  cases this with
  | nil nl e hd => exact .nil nl e hd
  | zero e a hd => exact .zero e a hd
  | full bx nl e els b base n cap cs f h => exact .full bx nl e els b base n cap cs f ⟨h.hd, h.own, h.heap, h.len, h.hcap, h.hmax, h.fit, h.pos, h.size, h.cell, fun i c k x q1 q2 => keep (h.rep i c k x q1 q2), h.nonil⟩
  | mp kvs b clk es hd own heap hes => exact .mp kvs b clk es hd own heap hes
/-- What the code's ends need. -/
def BehindE (X : Ctx) (Γ : List FE) {c : List Ty} {r : Ty} (o : Out c r) (ρ : Env) (k : Exit → St → M Stm) (e : Exit) (a : Act) (w : World) : Prop := Behind X Γ o ρ (k e) a w
theorem region_ok (hm : X.P.follows .mixedOrders = true) (hop : OpLaw X Γ ss) {an : Ann} (hN : an.N = X.N) {id : Nat} {ops : Array Oper} {draw : Bool} {k : Exit → St → M Stm} {s : Stm} {c : List Ty} {r : Ty} {o : Out c r}
    (h : cRegion X.P ss an id ops draw st (k .normal) = .ok s) (hi : TInv X NoD st ρ a w g) (hd : s.den Γ c r ρ = some o) : (Code.region id ops draw).wp X.P (BehindE X Γ o ρ k) a w := by
  unfold cRegion at h
  rw [hN] at h
  split at h
  · rename_i hdr
    subst hdr
    split at h
    · rename_i l hl
      split at h
      · rename_i hord
        exact wp_region_lex l hm hord (fun _ _ h => h) (cOps_ok hop _ st s ρ a _ g h (drew_inv hi) hd fun a' w' hb => hb)
      · cases h
    · cases h
  · rename_i hdr
    have hdr : draw = false := by simpa using hdr
    subst hdr
    exact wp_region_text (D := NoD) (fun _ _ h => h) (cOps_ok hop _ st s ρ a _ g h hi hd fun a' w' hb => hb)
end
end Go.Pu
