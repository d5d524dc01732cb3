/-
  Own work. Slice literals of flat elements.
-/
import Derived.Test.YtamaghlnjchhbaaPuR
namespace Go.Pu
open Go Go.RowKit
set_option linter.unusedVariables false

theorem fill_all (sz : Nat) : ∀ (parts : List Value) (k : Nat) (cs : Array Value), (∀ v ∈ parts, v.cells.size = sz) → (k + parts.length) * sz ≤ cs.size →
    ∃ cs', Instr.fill (fun i => some (i * sz, sz)) cs ((parts.zipIdx k).map fun (v, i) => (i, v)) = some cs' ∧ cs'.size = cs.size ∧ (∀ m, m < k * sz → cs'[m]? = cs[m]?) ∧
      ∀ (i : Nat) (v : Value), parts[i]? = some v → ∀ j, j < sz → cs'[(k + i) * sz + j]? = v.cells[j]? := by
  intro parts
  induction parts with
  | nil => intro k cs _ _; exact ⟨cs, rfl, rfl, fun _ _ => rfl, fun i v h => by simp at h⟩
  | cons v parts ih =>
    intro k cs hsz hl
    have hv := hsz v (by simp)
    have hk1 : (k + 1) * sz ≤ cs.size := Nat.le_trans (Nat.mul_le_mul_right _ (by simp)) hl
    rw [Nat.add_mul, Nat.one_mul] at hk1
    let cs1 := v.cells.zipIdx.foldl (fun cs (c, j) => cs.setIfInBounds (k * sz + j) c) cs
    have hcs1 : cs1 = (v.cells.toList.zipIdx 0).foldl (fun cs (c, j) => cs.setIfInBounds (k * sz + j) c) cs := by
      simp only [cs1]
      rw [← Array.foldl_toList, Array.toList_zipIdx]
    have hf := fun m => fill_one cs (k * sz) v.cells.toList 0 m (by simp; omega)
    rw [← hcs1] at hf
    obtain ⟨cs', h1, h2, h3, h4⟩ := ih (k + 1) cs1 (fun u hu => hsz u (by simp [hu])) (by
      rw [(hf 0).1]
      have : k + 1 + parts.length = k + (v :: parts).length := by simp; omega
      rw [this]; exact hl)
    refine ⟨cs', ?_, by rw [h2, (hf 0).1], fun m hm => ?_, fun i u hu j hj => ?_⟩
    · simp only [List.zipIdx_cons, List.map_cons, Instr.fill]
      rw [if_neg (by simp [hv]; omega)]
      exact h1
    · rw [h3 m (by rw [Nat.add_mul]; omega), (hf m).2, if_neg (by omega)]
    · cases i with
      | zero =>
        simp at hu; subst hu
        rw [Nat.add_zero, h3 _ (by rw [Nat.add_mul]; omega), (hf _).2, if_pos (by simp; omega)]
        have : k * sz + j - (k * sz + 0) = j := by omega
        rw [this, Array.getElem?_toList]
      | succ i =>
        have := h4 i u (by simpa using hu) j hj
        rwa [show k + 1 + i = k + (i + 1) from by omega] at this
theorem parts_zip (ρ : Operand → Value) : ∀ (l : List (Nat × Operand)) (k : Nat), inOrder k l = true → l.map (fun (i, x) => (i, ρ x)) = ((l.map fun p => ρ p.2).zipIdx k).map fun (v, i) => (i, v)
  | [], _, _ => rfl
  | (i, x) :: l, k, h => by
    simp only [inOrder, Bool.and_eq_true] at h
    have hi := Nat.eq_of_beq_eq_true h.1
    subst hi
    simp only [List.map_cons, List.zipIdx_cons]
    rw [parts_zip ρ l (i + 1) h.2]
section
variable {X : Ctx} {D : Nat → Prop} {Γ : List FE} {st : St} {ρ : Env} {a : Act} {w : World} {g : G}
variable {d : Nat} {x y : Operand} {t t' ty : TypeId} {ps : String} {af : Array Edge} {gd : Option (Nat × Bool)} {s : Step} {nr : Bool}
theorem parts_ok (hi : TInv X D st ρ a w g) {b : Ty} (hf : b.flat = true) : ∀ (os : List Operand) (ys : List (List At)), parts st b os = .ok ys → ys.length = os.length ∧
    ∀ (i : Nat) (c : List At) (o : Operand), ys[i]? = some c → os[i]? = some o → (a.eval o).cells.size = b.n ∧ (∀ x ∈ c, x.lt st.ts.length = true) ∧ ∀ (k : Nat) (q : C), (enc none b (mkv b (c.map (At.get ρ))).1)[k]? = some q → ∃ u, (a.eval o).cells[k]? = some u ∧ CRep w g q u ∧ u.oneCell' = true
  | [], ys, h => by
    simp only [parts, Except.ok.injEq] at h
    subst h
    exact ⟨rfl, fun i c o h => by simp at h⟩
  | o :: os, ys, h => by
    simp only [parts] at h
    obtain ⟨v, hv, h⟩ := ok_bind h
    obtain ⟨cs, hcs, h⟩ := ok_bind h
    obtain ⟨⟨xs, rs⟩, hx, h⟩ := ok_bind h
    obtain ⟨ys', hys, h⟩ := ok_bind h
    simp only [Except.ok.injEq] at h
    subst h
    obtain ⟨h1, h2⟩ := parts_ok hi hf os ys' hys
    obtain ⟨q1, q2⟩ := cells_rep hi hv hcs
    obtain ⟨_, e2, e3, e4⟩ := take_enc hi hf hx none
    refine ⟨by simp [h1], fun i c o' hc ho => ?_⟩
    cases i with
    | zero =>
      simp only [List.getElem?_cons_zero, Option.some.injEq] at hc ho
      subst hc ho
      exact ⟨by omega, e3, fun k q hq => q2 k q (by rw [← e4]; exact hq)⟩
    | succ i => exact h2 i c o' (by simpa using hc) (by simpa using ho)
theorem buildSlice_ok {m : Nat} {parts : Array (Nat × Operand)} (hN : d < X.N) (h : stepBuildSlice X.P st d t m parts.toList = .ok s) : WStep X D Γ nr st ⟨some d, .buildSlice t m parts, ty, ps, af, gd⟩ s := by
  unfold stepBuildSlice at h
  split at h
  · cases h
  · rename_i e he
    split at h
    · cases h
    · rename_i b hb
      split at h
      · rename_i hm0
        split at h
        · rename_i hc
          obtain ⟨hf, hp0, h0⟩ := hc
          simp only [Except.ok.injEq] at h
          subst h hm0
          intro ρ ρ' a w g hi hw hk hev
          have := evalB_nil hev
          subst this
          have hu := elem_under he
          have hpn : parts = #[] := by
            have := List.eq_nil_of_length_eq_zero hp0
            simpa using this
          subst hpn
          have hrun : (execOp a.eval ⟨some d, .buildSlice t 0 #[], ty, ps, af, gd⟩).run X.P w = .ok (.value (.slice (some ⟨w.heap.size, 0, none⟩) 0 0)) (w.alloc (.cells #[] e)) := by
            have hso := run_sizeOf (P := X.P) (w := w) (t := e) h0
            simp only [execOp, Instr.buildSlice, Sem.run_bind, run_underlying hu, Result.andThen_ok, hso, Nat.zero_mul, Sem.run_pure]
            have e0 : Array.range 0 = #[] := Array.eq_empty_of_size_eq_zero (by simp)
            simp [Instr.fill, newRow, e0]
          unfold Oper.wp
          rw [hrun]
          refine ⟨fun _ => .of_lat (lat_alloc _ _), hi.newRoot hk hN _ _ _ fun g' q1 q2 q3 q4 q5 q6 p row hr => ?_⟩
          have hval : (At.get ρ' (.nil (.sl e b))).as (.sl e b) = [] := by { show V.as (.sl e b) ⟨.sl e b, []⟩ = []; exact V.as_self _ _ }
          cases p with
          | nil =>
            rw [rows_nil_list, hval] at hr
            simp only [Option.some.injEq] at hr
            subst hr
            exact list_row (cap := 0) (f := fun _ _ => undef) q2 q4 (Nat.le_refl _) (Nat.zero_le _) h0 (by simp) (fun j c hc => by simp at hc) (fun e0 => by cases e0) fun j c k q hc hq => by simp at hc
          | cons q p =>
            obtain ⟨_, rfl, y', hy, hs⟩ := rows_cons_list hr
            rw [hval] at hy; simp at hy
        · cases h
      by_cases hc : (b.flat = true ∧ inOrder 0 parts.toList = true ∧ parts.toList.length = m ∧ b.n = szOf X.P e ∧ 0 < b.n ∧ m * b.n ≤ 16777216 ∧ 0 < m ∧ (zeroN X.P e).isSome = true)
      · rw [if_neg (fun hh => hh hc)] at h
        obtain ⟨hf, hord, hm, hbn, h0, hsm, hmp, hz⟩ := hc
        obtain ⟨ys, hys, h⟩ := ok_bind h
        simp only [Except.ok.injEq] at h
        subst h
        intro ρ ρ' a w g hi hw hk hev
        obtain ⟨v', hv', rfl⟩ := evalB_one hev
        simp only [Ex.den1, Ex.den, Option.some.injEq] at hv'
        subst hv'
        obtain ⟨N, hzN⟩ := Option.isSome_iff_exists.1 hz
        obtain ⟨i, z, hinfo, hzero, hzs⟩ := zeroN_spec hzN
        have hisz : i.size = szOf X.P e := by simp [szOf, hinfo]
        have hu := elem_under he
        obtain ⟨hyl, hyp⟩ := parts_ok hi hf _ _ hys
        have hyl : ys.length = m := by rw [hyl, List.length_map]; exact hm
        let vals := parts.toList.map fun p => a.eval p.2
        have hvl : vals.length = m := by simp only [vals, List.length_map]; exact hm
        have hval : ∀ (j : Nat) (c : List At), ys[j]? = some c → ∃ o, (parts.toList.map (·.2))[j]? = some o ∧ vals[j]? = some (a.eval o) := fun j c hj => by
          have hlt : j < parts.toList.length := by rw [hm, ← hyl]; exact (List.getElem?_eq_some_iff.1 hj).1
          refine ⟨(parts.toList[j]).2, by rw [List.getElem?_map, List.getElem?_eq_getElem hlt]; rfl, ?_⟩
          simp only [vals]
          rw [List.getElem?_map, List.getElem?_eq_getElem hlt]; rfl
        have hsz : ∀ v ∈ vals, v.cells.size = b.n := fun v hv => by
          obtain ⟨j, hj⟩ := List.getElem?_of_mem hv
          have hlt : j < ys.length := by rw [hyl, ← hvl]; exact (List.getElem?_eq_some_iff.1 hj).1
          obtain ⟨o, ho1, ho2⟩ := hval j _ (List.getElem?_eq_getElem hlt)
          rw [hj] at ho2
          cases ho2
          exact (hyp j _ o (List.getElem?_eq_getElem hlt) ho1).1
        have hm1 : ¬ m * b.n = 0 := by
          have : 1 * 1 ≤ m * b.n := Nat.mul_le_mul hmp h0
          omega
        have hmm : m ≤ 16777216 := Nat.le_trans (Nat.le_mul_of_pos_right m h0) hsm
        let cs0 := (Array.range (m * b.n)).map (z.cells[· % z.cells.size]!)
        have hcs0 : cs0.size = m * b.n := by simp [cs0]
        obtain ⟨cs, hfill, hcsz, _, hcells⟩ := fill_all b.n vals 0 cs0 hsz (by rw [hvl, hcs0, Nat.zero_add]; exact Nat.le_refl _)
        have hzip := parts_zip a.eval parts.toList 0 hord
        have hrun : (execOp a.eval ⟨some d, .buildSlice t m parts, ty, ps, af, gd⟩).run X.P w = .ok (.value (.slice (some ⟨w.heap.size, 0, none⟩) m m)) (w.alloc (.cells cs e)) := by
          have hlim : ¬ (m * b.n > 2 ^ 24) := by omega
          have hfill' : Instr.fill (fun i => some (i * b.n, b.n)) ((Array.range (m * b.n)).map (z.cells[· % z.cells.size]!)) (parts.toList.map fun x => (x.1, a.eval x.2)) = some cs := by
            have e1 : (parts.toList.map fun x => (x.1, a.eval x.2)) = parts.toList.map (fun (i, x) => (i, a.eval x)) := rfl
            rw [e1, hzip]; exact hfill
          have hm0 : ¬ (m = 0) := by omega
          have hzv : (zeroValue e).run X.P w = .ok z w := by simp [zeroValue, typeInfo, hinfo, hzero]
          have hso := run_sizeOf (P := X.P) (w := w) (t := e) (by omega)
          rw [← hbn] at hso
          simp only [execOp, Instr.buildSlice, Sem.run_bind, run_underlying hu, Result.andThen_ok, hso, hlim, if_false, hm1, hzv, Sem.run_pure, Array.toList_map]
          simp [hfill', newRow]
        unfold Oper.wp
        rw [hrun]
        have hi2 := hi.bindOne hw (v := ⟨.sl e b, ys.map fun c => (mkv b (c.map (At.get ρ))).1⟩) rfl
        have hvv : (st.ref.get (ρ ++ [⟨.sl e b, ys.map fun c => (mkv b (c.map (At.get ρ))).1⟩])).as (.sl e b) = ys.map fun c => (mkv b (c.map (At.get ρ))).1 := by rw [ref_get hi.len]; exact V.as_self _ _
        refine ⟨fun _ => .of_lat (lat_alloc _ _), hi2.newRoot (rok_bind hk _) hN _ _ _ fun g' q1 q2 q3 q4 q5 q6 p row hr => ?_⟩
        cases p with
        | nil =>
          rw [rows_nil_list, hvv] at hr
          simp only [Option.some.injEq] at hr
          subst hr
          have hel : ((ys.map fun c => (mkv b (c.map (At.get ρ))).1).mapIdx fun i y => encIn none (st.bind (.sl e b)).nr i b y).length = m := by simp [hyl]
          have hget : ∀ (j : Nat) (c : List C), ((ys.map fun c => (mkv b (c.map (At.get ρ))).1).mapIdx fun i y => encIn none (st.bind (.sl e b)).nr i b y)[j]? = some c → ∃ y, ys[j]? = some y ∧ c = enc none b (mkv b (y.map (At.get ρ))).1 := fun j c hc => by
            rw [List.getElem?_mapIdx, List.getElem?_map, Option.map_map, Option.map_eq_some_iff] at hc
            obtain ⟨y, hy, rfl⟩ := hc
            exact ⟨y, hy, by simp only [Function.comp, encIn]; exact encE_flat _ _ none 0 b _ hf⟩
          refine list_row (cap := m) (f := fun i k => (vals.getD i undef).cells.getD k undef) (by rw [hel]; exact q2) q4 (by omega) (by simp only [maxLen]; omega) (by omega) (by rw [hcsz, hcs0, hbn]) (fun j c hc => by obtain ⟨y, _, rfl⟩ := hget j c hc; rw [enc_length, hbn]) (fun _ e0 => by rw [e0] at hel; simp at hel; omega) fun j c k q hc hq => ?_
          obtain ⟨y, hy, rfl⟩ := hget j c hc
          obtain ⟨o, ho1, ho2⟩ := hval j y hy
          obtain ⟨_, _, h3⟩ := hyp j y o hy ho1
          obtain ⟨u, hu', hr', h1'⟩ := h3 k q hq
          have hkb : k < b.n := by rw [← enc_length none b (mkv b (y.map (At.get ρ))).1]; exact (List.getElem?_eq_some_iff.1 hq).1
          have hcell := hcells j _ ho2 k hkb
          rw [Nat.zero_add, hu'] at hcell
          have hfu : (vals.getD j undef).cells.getD k undef = u := by
            rw [List.getD, ho2]
            simp only [Option.getD_some]
            rw [Array.getD_eq_getD_getElem?, hu']; rfl
          refine ⟨by rw [← hbn, hcell, hfu], ?_⟩
          show CRep _ g' q ((vals.getD j undef).cells.getD k undef)
          rw [hfu]
          exact scal_rep hr' (flat_scal b _ k q hf hq)
        | cons q p =>
          obtain ⟨_, rfl, y', hy, hs⟩ := rows_cons_list hr
          rw [flat_noRow _ _ _ _ hf] at hs; cases hs
      · rw [if_pos hc] at h; cases h
end
end Go.Pu
