/-
  Own work. Calls.
-/
import Derived.Test.YtamaghlnjchhbaaPuAa
namespace Go.Pu
open Go Go.RowKit
set_option linter.unusedVariables false
set_option linter.unusedSectionVars false

theorem setRs_nr : ∀ (l : List (Nat × RK)) (st : St), (setRs l st).nr = st.nr ∧ (setRs l st).slots = st.slots ∧ (setRs l st).ts = st.ts ∧ (setRs l st).fix = st.fix
  | [], st => ⟨rfl, rfl, rfl, rfl⟩
  | (r, k) :: l, st => by
    obtain ⟨h1, h2, h3, h4⟩ := setRs_nr l (st.setR r k)
    exact ⟨h1.trans (by simp [St.setR, St.nr]), h2, h3, h4⟩
theorem setRs_other : ∀ (l : List (Nat × RK)) (st : St) (r : Nat), (∀ k, (r, k) ∉ l) → (setRs l st).rk r = st.rk r
  | [], st, r, _ => rfl
  | (r0, k) :: l, st, r, h => by
    simp only [setRs]
    rw [setRs_other l _ r (fun k' hk' => h k' (List.mem_cons_of_mem _ hk'))]
    exact setR_rk_ne (fun e => h k (by rw [e]; exact List.mem_cons_self))
theorem setRs_get : ∀ (R : List Nat) (ks : List RK) (st : St), nodup R = true → ∀ (j r : Nat) (k : RK), R[j]? = some r → ks[j]? = some k → (setRs (R.zip ks) st).rk r = k ∨ (setRs (R.zip ks) st).rk r = .dead
  | [], _, _, _, j, r, k, h, _ => by simp at h
  | r0 :: R, [], _, _, j, r, k, _, h => by simp at h
  | r0 :: R, k0 :: ks, st, hn, j, r, k, h1, h2 => by
    simp only [nodup, Bool.and_eq_true, Bool.not_eq_true'] at hn
    simp only [List.zip_cons_cons, setRs]
    cases j with
    | zero =>
      simp only [List.getElem?_cons_zero, Option.some.injEq] at h1 h2
      subst h1 h2
      rw [setRs_other (R.zip ks) _ r0 (fun k' hk' => by
        have : r0 ∈ R := (List.of_mem_zip hk').1
        have h3 : R.contains r0 = true := by simpa using this
        rw [h3] at hn; cases hn.1)]
      exact setR_rk st r0 k0
    | succ j => exact setRs_get R ks (st.setR r0 k0) hn.2 j r k (by simpa using h1) (by simpa using h2)
theorem mapM_ok {α β : Type} {f : α → M β} : ∀ (os : List α) (us : List β), os.mapM f = .ok us → us.length = os.length ∧ ∀ (i : Nat) (u : β), us[i]? = some u → ∃ o, os[i]? = some o ∧ f o = .ok u
  | [], us, h => by
    simp only [List.mapM_nil] at h
    cases h
    exact ⟨rfl, fun i u h => by simp at h⟩
  | o :: os, us, h => by
    rw [List.mapM_cons] at h
    obtain ⟨u, hu, h⟩ := ok_bind h
    obtain ⟨us', hus, h⟩ := ok_bind h
    cases h
    obtain ⟨e1, e2⟩ := mapM_ok os us' hus
    refine ⟨by simp [e1], fun i v hv => ?_⟩
    cases i with
    | zero => simp only [List.getElem?_cons_zero, Option.some.injEq] at hv; subst hv; exact ⟨o, rfl, hu⟩
    | succ i => simpa using e2 i v (by simpa using hv)
theorem findS_mem {st : St} {f : FuncId} {os : List Operand} {s : Sig} : ∀ {ss : List Sig}, findS st ss f os = some s → s ∈ ss ∧ s.f = f
  | [], h => by cases h
  | s0 :: ss, h => by
    simp only [findS] at h
    split at h
    · rename_i hc; cases h; exact ⟨List.mem_cons_self, hc.1⟩
    · obtain ⟨h1, h2⟩ := findS_mem h; exact ⟨List.mem_cons_of_mem _ h1, h2⟩
section
variable {X : Ctx} {Γ : List FE} {ss : List Sig} {st : St} {ρ : Env} {a : Act} {w : World} {g : G}
variable {d : Nat} {x y : Operand} {t t' ty : TypeId} {ps : String} {af : Array Edge} {gd : Option (Nat × Bool)} {s : Step} {nr : Bool}
theorem call_ok (hS : Specs X.P ss Γ) (hN : d < X.N) {args : Array Operand} {ats : Array TypeId} {f : FuncId} {caps : List SC} (hx : st.val x = .ok (.c (.fn f caps))) (h : stepCall st ss d f args.toList caps = .ok s)
    (hnr : nr = true → ∀ sg, findS st ss f args.toList = some sg → sg.flags.isEmpty = true) : WStep X NoD Γ nr st ⟨some d, .call { callee := .value x, args := args, argTypes := ats }, ty, ps, af, gd⟩ s := by
  unfold stepCall at h
  split at h
  case h_2 => cases h
  rename_i sg hsg
  obtain ⟨us, hus, h⟩ := ok_bind h
  obtain ⟨R, hR, h⟩ := ok_bind h
  obtain ⟨xs, hxs, h⟩ := ok_bind h
  simp only at h
  generalize hst1 : killR (R.zip sg.flags) st = st1 at h
  by_cases hc : (nodup R = true ∧ R.length = sg.flags.length ∧ (postRs st.nx sg.m sg.rs.length sg.ps).length = R.length ∧ R.all (fun r => Nat.blt r st.nr) = true ∧ sg.rs.all (fun r => r.ty.flat2) = true ∧ (sg.ps.flatMap Par.io).all Ty.flat2 = true ∧
      st1.okR (fun r => Nat.blt r st.nr && !goneR (R.zip sg.flags) r) (fun r => Nat.blt r st.nr && !R.contains r) = true ∧ st.fix.all (fun r => Nat.blt r st.nr && !goneR (R.zip sg.flags) r) = true ∧ st1.nr = st.nr ∧ st1.wf = true ∧ (us ++ caps.map SV.c).length = sg.ps.length)
  case neg => rw [if_pos hc] at h; cases h
  rw [if_neg (fun hh => hh hc)] at h
  obtain ⟨hnd, hRl, hpl, hRlt, hf1, hf2, hokR, hfix, hnr1, hwf1, hvl⟩ := hc
  simp only [Except.ok.injEq] at h
  subst h
  intro ρ ρ' a w g hi hw hk hev
  obtain ⟨hmem, hf⟩ := findS_mem hsg
  obtain ⟨fn, hfe, ⟨F, hF, hname, hbody⟩, hrun⟩ := hS sg hmem
  obtain ⟨v', hv', rfl⟩ := evalB_one hev
  simp only [Ex.den1, Ex.den, hfe, Option.bind_eq_some_iff, Option.some.injEq] at hv'
  obtain ⟨yv, hy, rfl⟩ := hv'
  -- the callee's value
  have hxr : CRep w g (.fn f (encL ρ caps)) (a.eval x) := by simpa [SV.enc, SC.enc, PRep] using val_rep hi hx
  obtain ⟨cv, hcv, hcvl, hcvr⟩ : ∃ cv : Array Value, a.eval x = .func (.func f) #[] cv ∧ cv.size = caps.length ∧ ∀ (k : Nat) (q : C), (encL ρ caps)[k]? = some q → CRep w g q (cv.getD k undef) := by
    generalize a.eval x = u at hxr
    cases hxr with
    | fn _ _ vs hs hrep => exact ⟨vs, rfl, by rw [hs, encL_map, List.length_map], hrep⟩
  have hn' : ¬ F.name = "runtime.NumGoroutine" := by simpa using hname
  have hb' : ¬ F.body = none := fun e => by rw [e] at hbody; cases hbody
  rw [hf] at hF
  have hmach : (execOp a.eval ⟨some d, .call { callee := .value x, args := args, argTypes := ats }, ty, ps, af, gd⟩).run X.P w = .ok (.enter f (args.map a.eval ++ cv)) w := by
    simp [execOp, resolve, Deferred.ofValue, hcv, invoke, callFunc, hF, hn', hb']
  obtain ⟨m1, m2⟩ := mapM_ok _ _ hus
  have hsz : (args.map a.eval ++ cv).size = (us ++ caps.map SV.c).length := by simp [m1, hcvl]
  have hargs : ∀ (i : Nat) (sv : SV), (us ++ caps.map SV.c)[i]? = some sv → PRep X.P w g (sv.enc ρ) ((args.map a.eval ++ cv).getD i undef) := fun i sv hsv => by
    have m1' : us.length = (args.map a.eval).size := by simp [m1]
    rw [List.getElem?_append] at hsv
    rw [Array.getD_eq_getD_getElem?, Array.getElem?_append, ← m1']
    split at hsv
    · rename_i hlt
      rw [if_pos hlt]
      obtain ⟨o, ho, hov⟩ := m2 i sv hsv
      have : (args.map a.eval)[i]? = some (a.eval o) := by rw [Array.getElem?_map, ← Array.getElem?_toList, ho]; rfl
      rw [this]
      exact val_rep hi hov
    · rename_i hge
      rw [if_neg hge]
      rw [List.getElem?_map, Option.map_eq_some_iff] at hsv
      obtain ⟨c, hc, rfl⟩ := hsv
      have := hcvr (i - us.length) (c.enc ρ) (by rw [encL_map, List.getElem?_map, hc]; rfl)
      rw [Array.getD_eq_getD_getElem?] at this
      exact this
  have hpre := pre_ok hi hR hxs hnd hsz hargs
  have hok := hi.inv.ok
  unfold Oper.wp
  rw [hmach]
  simp only [Oper.upon]
  rw [← hf]
  refine Calls.mono (hrun _ yv w _ _ hpre hy) fun e w' ⟨v, he, hpost⟩ => ?_
  subst he
  obtain ⟨hchg, g', hgown, hghd, hgrep, hgrow⟩ := hpost
  have hkept : ∀ k, k < w.heap.size → (lendG g R).own k = none → w'.heap[k]? = w.heap[k]? := fun k hk h0 => hchg.block k hk (fun ⟨l, hl⟩ => by rw [h0] at hl; cases hl)
  have notR : ∀ (b : Nat) (l : Loc), g.own b = some l → R.contains l.1 = false → (lendG g R).own b = none := fun b l hl hc => by
    simp only [lendG, hl, posOf_none hc]; rfl
  have notS : ∀ b, g.S b → (lendG g R).own b = none := fun b hb => by
    cases ho : g.own b with
    | none => simp only [lendG, ho]
    | some l => exact absurd hb (hok.own b l ho).2.2
  show (nr = true → RelD NoD w w') ∧ _
  refine ⟨fun e => ⟨hchg.size, fun b hb _ => hkept b hb ?_⟩, ?_⟩
  · have := hnr e sg hsg
    have hR0 : R = [] := List.eq_nil_of_length_eq_zero (by rw [hRl]; simpa using this)
    cases ho : g.own b with
    | none => simp only [lendG, ho]
    | some l => exact notR b l ho (by rw [hR0]; rfl)
  -- the roots' new numbers
  have hk0 : sg.k0 = R.length := hRl.symm
  let fR : Nat → Nat := fun j => if j < R.length then R.getD j 0 else st.nr + (j - R.length)
  let gF : G := { S := g.S, own := fun b => if b < w.heap.size ∧ (lendG g R).own b = none then g.own b else (g'.own b).map fun l => (fR l.1, l.2), hdr := fun l => match posOf R l.1 with | some j => g'.hdr (j, l.2) | none => if st.nr ≤ l.1 then g'.hdr (R.length + (l.1 - st.nr), l.2) else g.hdr l }
  have hRlt' : ∀ (j r : Nat), R[j]? = some r → r < st.nr := fun j r hj => by simpa using List.all_eq_true.1 hRlt r (List.mem_of_getElem? hj)
  have hnone : ∀ r, st.nr ≤ r → posOf R r = none := fun r hr => posOf_none (by
    cases hc : R.contains r with
    | false => rfl
    | true =>
      have hm : r ∈ R := by simpa using hc
      have := List.all_eq_true.1 hRlt r hm
      simp at this; omega)
  have hhdF : ∀ l l', mlF fR l l' → gF.hdr l' = g'.hdr l := fun l l' ⟨h1, h2⟩ => by
    obtain ⟨j, p⟩ := l
    obtain ⟨r, p'⟩ := l'
    simp only at h1 h2
    subst h2
    simp only [gF]
    by_cases hj : j < R.length
    · have hjr : R[j]? = some r := by rw [h1]; simp only [fR, if_pos hj]; rw [List.getD, List.getElem?_eq_getElem hj]; rfl
      rw [get_posOf hnd hjr]
    · have hr : r = st.nr + (j - R.length) := by rw [h1]; simp only [fR, if_neg hj]
      rw [hnone r (by omega), if_pos (by omega)]
      rw [show R.length + (r - st.nr) = j from by omega]
  have hownF : ∀ (b : Nat) (l : Loc), g'.own b = some l → gF.own b = some (fR l.1, l.2) := fun b l hl => by
    simp only [gF]
    rw [if_neg, hl]; rfl
    rintro ⟨h1, h2⟩
    rcases (hgown b l hl).1 with ⟨l0, h0⟩ | h0
    · rw [h2] at h0; cases h0
    · omega
  have hts := killR_ts (R.zip sg.flags) st
  rw [hst1] at hts
  have hi1 : TInv X NoD st1 ρ a w g := by rw [← hst1]; exact killR_ok (fun _ h => h) _ st hi
  have hi2 := hi1.bindOne hwf1 (v := ⟨sg.r, yv⟩) (t := sg.r) rfl
  have hnx : st.nx = ρ.length := by rw [hi.len]; rfl
  have hlt : d < a.tmps.size := by rw [hi.inv.size]; exact hN
  have hokR2 := hokR
  unfold St.okR at hokR
  simp only [Bool.and_eq_true] at hokR
  have hf0 : ∀ j, fR (sg.k0 + j) = st.nr + j := fun j => by simp only [fR]; rw [if_neg (by omega)]; omega
  have hh : ∀ l, plOf2 (fun r => Nat.blt r st.nr && !goneR (R.zip sg.flags) r) (fun r => Nat.blt r st.nr && !R.contains r) l → gF.hdr l = g.hdr l := fun l hl => by
    obtain ⟨r, p⟩ := l
    obtain ⟨h1, h2⟩ := hl
    simp only [Bool.and_eq_true, Nat.blt_eq, Bool.not_eq_true'] at h1 h2
    simp only [gF]
    cases hc : R.contains r with
    | false => rw [posOf_none hc, if_neg (by omega)]
    | true =>
      obtain ⟨j, hj⟩ := posOf_some hc
      rw [hj]
      have hjr := posOf_get hj
      rcases h2 with rfl | ⟨_, h2⟩
      · have hjl : j < R.length := (List.getElem?_eq_some_iff.1 hjr).1
        have hfl : sg.flags[j]? = some (sg.flags[j]'(by omega)) := List.getElem?_eq_getElem (by omega)
        have htrue : sg.flags[j]? = some true := by
          cases hb : sg.flags[j]'(by omega) with
          | true => rw [hfl, hb]
          | false =>
            exfalso
            have hz : (R.zip sg.flags)[j]? = some (r, false) := by rw [List.getElem?_zip_eq_some]; exact ⟨hjr, by rw [hfl, hb]⟩
            have hm := List.mem_of_getElem? hz
            have : goneR (R.zip sg.flags) r = true := by
              unfold goneR
              rw [List.any_eq_true]
              exact ⟨_, hm, by simp⟩
            rw [this] at h1; cases h1.2
        show g'.hdr (j, []) = g.hdr (r, [])
        rw [hghd j htrue]
        exact lend_hdr hjr []
      · rw [hc] at h2; cases h2
  have hr : ∀ rg, prOf (fun r => Nat.blt r st.nr && !R.contains r) rg → ∀ b, g.reg rg b → gF.reg rg b ∧ w'.heap[b]? = w.heap[b]? := fun rg hrg b hb => by
    have hSS : g.S b → gF.S b ∧ w'.heap[b]? = w.heap[b]? := fun hb => ⟨hb, hkept b (hok.S b hb).1 (notS b hb)⟩
    cases rg with
    | none => exact hSS hb
    | some r =>
      rcases hb with hb | ⟨p, hb⟩
      · exact ⟨.inl (hSS hb).1, (hSS hb).2⟩
      · have hp := hrg r rfl
        simp only [Bool.and_eq_true, Nat.blt_eq, Bool.not_eq_true'] at hp
        have hn := notR b (r, p) hb hp.2
        have hlt := (hok.own b _ hb).2.1
        exact ⟨.inr ⟨p, by simp only [gF]; rw [if_pos ⟨hlt, hn⟩]; exact hb⟩, hkept b hlt hn⟩
  obtain ⟨n1, n2, n3, n4⟩ := setRs_nr (R.zip (postRs st.nx sg.m sg.rs.length sg.ps)) (st1.bind sg.r)
  refine ⟨gF, ⟨?_, hi2.inv.next (plOf2 (fun r => Nat.blt r st.nr && !goneR (R.zip sg.flags) r) (fun r => Nat.blt r st.nr && !R.contains r)) (prOf (fun r => Nat.blt r st.nr && !R.contains r)) hh hr ⟨hok.chg.trans (hchg.of fun k hk hO => ⟨Nat.lt_of_lt_of_le hk hok.base, fun ⟨l, hl⟩ => ?_⟩), Nat.le_trans hok.base hchg.size, fun b hb => ⟨Nat.lt_of_lt_of_le (hok.S b hb).1 hchg.size, (hok.S b hb).2⟩, fun b l hl => ?_⟩ (by simp [Act.put]) rfl (fun i => ?_) (fun l row hl => ?_), fun r hr0 => ?_, fun b hb => hb.elim⟩⟩
  · show _ = (callEnd st st1 d sg R).ts
    unfold callEnd
    simp only [St.put, n3]
    exact hi2.typ
  · obtain ⟨l0, h0, _⟩ := lend_own hl
    rcases (hok.own k l0 h0).1 with h | h
    · exact hO h
    · omega
  · simp only [gF] at hl
    split at hl
    · obtain ⟨h1, h2, h3⟩ := hok.own b l hl
      exact ⟨h1, Nat.lt_of_lt_of_le h2 hchg.size, h3⟩
    · rename_i hneg
      rw [Option.map_eq_some_iff] at hl
      obtain ⟨l0, hl0, _⟩ := hl
      obtain ⟨h1, h2⟩ := hgown b l0 hl0
      rcases h1 with ⟨l1, h1⟩ | h1
      · obtain ⟨l2, h3, _⟩ := lend_own h1
        obtain ⟨q1, _, q3⟩ := hok.own b l2 h3
        exact ⟨q1, h2, q3⟩
      · exact ⟨.inr (Nat.le_trans hok.base h1), h2, fun hS => by have := (hok.S b hS).1; omega⟩
  · have hslot : (callEnd st st1 d sg R).slot i = ((st1.bind sg.r).put d (resSV (resCs st.nx sg.m 0 st.nr sg.rs))).slot i := by
      unfold callEnd St.put St.slot
      simp only [n2]
    show _ ∨ _ ∨ PRep X.P w' gF (((callEnd st st1 d sg R).slot i).enc (ρ ++ [⟨sg.r, yv⟩])) _
    rcases St.slot_put (st1.bind sg.r) d i (resSV (resCs st.nx sg.m 0 st.nr sg.rs)) with ⟨e, rfl⟩ | ⟨e, hs⟩ | e
    · right; right
      rw [hslot, e]
      simp only [Act.put]
      rw [getD_set_eq _ _ _ hlt]
      have e1 := resCs_im (n := ρ.length) (m := sg.m) hf0 sg.rs 0 0
      rw [Nat.add_zero, Nat.add_zero] at e1
      rw [hnx, e1]
      exact resSV_im hhdF (resCs_plain sg.rs 0 sg.k0) hgrep
    · right; left
      refine ⟨by show SV.enc _ ((callEnd st st1 d sg R).slot i) = SV.enc _ ((st1.bind sg.r).slot i); rw [hslot, e], ?_, ?_⟩
      · simp only [Act.put]
        rw [getD_set_ne' _ _ _ _ (Ne.symm hs)]
      · exact SV.okR_ok2 _ (all_slot hokR.1 rfl i)
    · left
      show SV.enc _ ((callEnd st st1 d sg R).slot i) = .junk
      rw [hslot, e]; rfl
  · obtain ⟨r, p⟩ := l
    have hl : RK.rows (ρ ++ [⟨sg.r, yv⟩]) r ((callEnd st st1 d sg R).rk r) p = some row := hl
    have e2 := postRs_im (n := ρ.length) (m := sg.m) (f := fR) sg.ps sg.rs.length
    have e3 := resRs_im (n := ρ.length) (m := sg.m) hf0 sg.rs 0 0
    rw [Nat.add_zero, Nat.add_zero] at e3
    have hrk : (callEnd st st1 d sg R).rk r = if r < st.nr then (setRs (R.zip (postRs st.nx sg.m sg.rs.length sg.ps)) (st1.bind sg.r)).rk r else (resRs st.nx sg.m 0 st.nr sg.rs).getD (r - st.nr) .dead := by
      have hnr2 : (setRs (R.zip (postRs st.nx sg.m sg.rs.length sg.ps)) (st1.bind sg.r)).roots.length = st.nr := n1.trans hnr1
      unfold callEnd St.put St.rk
      simp only [List.getD]
      split
      · rename_i h; rw [List.getElem?_append_left (by omega)]
      · rename_i h; rw [List.getElem?_append_right (by omega), hnr2]
    have imrow : ∀ (j : Nat) (k : RK), (postSt sg).rk j = k → k.plain = true → r = fR j → RK.rows (ρ ++ [⟨sg.r, yv⟩]) (fR j) (k.im ρ.length fR) p = some row → RowRep X.P w' gF (r, p) row := fun j k hk hp hj hrows => by
      rw [hj]
      exact im_rows hhdF hp (fun p row hpr => hgrow (j, p) row (by show RK.rows _ j ((postSt sg).rk j) p = _; rw [hk]; exact hpr)) (fun b p hb => hownF b _ hb) hrows
    have hpl0 : (postRs 0 sg.m sg.rs.length sg.ps).length = R.length := by
      have := hpl
      rw [hnx, e2, List.length_map] at this; exact this
    rw [hrk] at hl
    split at hl
    · rename_i hlt2
      cases hc : R.contains r with
      | true =>
        obtain ⟨j, hj⟩ := posOf_some hc
        have hjr := posOf_get hj
        have hjl : j < R.length := (List.getElem?_eq_some_iff.1 hjr).1
        have hkj : (postRs 0 sg.m sg.rs.length sg.ps)[j]? = some ((postRs 0 sg.m sg.rs.length sg.ps)[j]'(by omega)) := List.getElem?_eq_getElem (by omega)
        generalize (postRs 0 sg.m sg.rs.length sg.ps)[j]'(by omega) = k at hkj
        have hkj' : (postRs st.nx sg.m sg.rs.length sg.ps)[j]? = some (k.im ρ.length fR) := by rw [hnx, e2, List.getElem?_map, hkj]; rfl
        right
        rcases setRs_get R _ (st1.bind sg.r) hnd j r _ hjr hkj' with e | e
        · rw [e] at hl
          have hfj : r = fR j := by simp only [fR, if_pos hjl]; rw [List.getD, hjr]; rfl
          refine imrow j k ?_ (List.all_eq_true.1 (postRs_plain sg.ps _ hf2) k (List.mem_of_getElem? hkj)) hfj (by rw [← hfj]; exact hl)
          unfold St.rk postSt
          simp only [List.getD]
          rw [List.getElem?_append_left (by omega), hkj]; rfl
        · rw [e, rows_dead] at hl; cases hl
      | false =>
        left
        rw [setRs_other _ _ r (fun k hk => by
          have : r ∈ R := (List.of_mem_zip hk).1
          have h3 : R.contains r = true := by simpa using this
          rw [h3] at hc; cases hc)] at hl
        have hpr : Nat.blt r st.nr = true ∧ R.contains r = false := ⟨by simpa using hlt2, hc⟩
        have hng : goneR (R.zip sg.flags) r = false := by
          cases hg : goneR (R.zip sg.flags) r with
          | false => rfl
          | true =>
            exfalso
            unfold goneR at hg
            rw [List.any_eq_true] at hg
            obtain ⟨y, hy1, hy2⟩ := hg
            simp only [Bool.and_eq_true] at hy2
            have e0 := Nat.eq_of_beq_eq_true hy2.1
            have : r ∈ R := by rw [← e0]; exact (List.of_mem_zip (a := y.1) (b := y.2) hy1).1
            have h3 : R.contains r = true := by simpa using this
            rw [h3] at hc; cases hc
        have hph : (Nat.blt r st.nr && !goneR (R.zip sg.flags) r) = true ∧ (Nat.blt r st.nr && !R.contains r) = true := by rw [hpr.1, hpr.2, hng]; exact ⟨rfl, rfl⟩
        refine ⟨hl, ⟨hph.1, .inr hph.2⟩, RK.okR_ok2 _ (all_rk hokR.2 rfl r) hph p row hl, fun b hb => ?_⟩
        have hn := notR b (r, p) hb hc
        have hlt3 := (hok.own b _ hb).2.1
        exact ⟨by simp only [gF]; rw [if_pos ⟨hlt3, hn⟩]; exact hb, hkept b hlt3 hn⟩
    · rename_i hge
      right
      cases hj : (resRs 0 sg.m 0 sg.k0 sg.rs)[r - st.nr]? with
      | none =>
        rw [hnx, e3, List.getD, List.getElem?_map, hj] at hl
        simp only [Option.map_none, Option.getD_none, rows_dead] at hl; cases hl
      | some k =>
        rw [hnx, e3, List.getD, List.getElem?_map, hj] at hl
        simp only [Option.map_some, Option.getD_some] at hl
        have hfj : r = fR (R.length + (r - st.nr)) := by simp only [fR]; rw [if_neg (by omega)]; omega
        refine imrow (R.length + (r - st.nr)) k ?_ (List.all_eq_true.1 (resRs_plain sg.rs 0 sg.k0 hf1) k (List.mem_of_getElem? hj)) hfj (by rw [← hfj]; exact hl)
        unfold St.rk postSt
        simp only [List.getD]
        rw [List.getElem?_append_right (by omega), show R.length + (r - st.nr) - (postRs 0 sg.m sg.rs.length sg.ps).length = r - st.nr from by omega, hj]; rfl
  · have hr1 : r ∈ st.fix := by
      have : r ∈ (callEnd st st1 d sg R).fix := hr0
      unfold callEnd at this
      simp only [St.put, n4] at this
      have h2 : r ∈ st1.fix := this
      rw [hts.2] at h2; exact h2
    have hp := List.all_eq_true.1 hfix r hr1
    rw [hh (r, []) ⟨hp, .inl rfl⟩]
    exact hi.fixd r hr1
end
end Go.Pu
