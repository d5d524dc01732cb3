/-
  Own work. From what the row's reading says of the arguments to the contract's arguments, and back.
-/
import Derived.Test.YtphdildkhaeimaaEvK
import Derived.ProofKit
import Derived.OpenShut
import Derived.Carry
import Derived.ChangeSame
import Derived.Lib.SmallJoins
namespace Go.Ev
open Go Go.ChangeShapes Go.WideShapes Go.ChangeAt Go.RowKit

/-- The cells of a value of a type. -/
def Has (P : Program) : Nat → TypeId → List T → Prop
  | 0, _, _ => False
  | n + 1, t, xs => match P.underlying t with
    | some (.int .i64) => ∃ z, xs = [.int z] ∧ -9223372036854775808 ≤ z ∧ z ≤ 9223372036854775807
    | some .bool => ∃ b, xs = [.bool b]
    | some (.slice e) => ∃ els, xs = [.ro els] ∧ els.length ≤ maxLen ∧ ∀ c ∈ els, Has P n e c
    | some (.struct fs) => xs.length = P.cellsOf t ∧ ∀ (i : Nat) (f : Field), fs[i]? = some f → Has P n f.type ((xs.drop f.offset).take (P.cellsOf f.type))
    | _ => False

/-- Fields in a row, from a place on, up to the end. -/
def inRow (P : Program) : List Field → Nat → Nat → Bool
  | [], o, m => Nat.beq o m
  | f :: fs, o, m => Nat.beq f.offset o && inRow P fs (o + P.cellsOf f.type) m
def okT (P : Program) : Nat → TypeId → Bool
  | 0, _ => false
  | n + 1, t => match P.underlying t with
    | some (.int .i64) => true
    | some .bool => true
    | some (.slice e) => Nat.blt 0 (P.cellsOf e) && okT P n e
    | some (.struct fs) => inRow P fs.toList 0 (P.cellsOf t) && fs.toList.all (fun f => okT P n f.type)
    | _ => false

def Cells (w : World) (xs : List T) (cs : List Value) : Prop := xs.length = cs.length ∧ ∀ (k : Nat) (x : T), xs[k]? = some x → ∃ u, cs[k]? = some u ∧ IRep w (fun b => b < w.heap.size) x u

theorem cell_lt {w : World} {a : Addr} {v : Value} (h : w.cell? a = some v) : a.block < w.heap.size ∧ a.spot = none := by
  unfold World.cell? at h
  cases hh : w.heap[a.block]? with
  | none => rw [hh] at h; cases h
  | some o =>
    rw [hh] at h
    refine ⟨(Array.getElem?_eq_some_iff.1 hh).1, ?_⟩
    cases o with
    | cells c _ _ =>
      simp only at h
      split at h
      · cases h
      · rename_i hs; simpa using hs
    | _ => cases h

theorem mapM_get {α β : Type} (f : α → Option β) : ∀ (l : List α) (r : List β), l.mapM f = some r → r.length = l.length ∧ ∀ (i : Nat) (x : α), l[i]? = some x → f x = r[i]?
  | [], r, h => by
    simp at h; subst h; simp
  | a :: l, r, h => by
    rw [List.mapM_cons] at h
    cases hf : f a with
    | none => rw [hf] at h; cases h
    | some b =>
      rw [hf] at h
      cases hm : l.mapM f with
      | none => rw [hm] at h; cases h
      | some bs =>
        rw [hm] at h
        obtain rfl : b :: bs = r := by simpa using h
        obtain ⟨h1, h2⟩ := mapM_get f l bs hm
        refine ⟨by simp [h1], fun i x hx => ?_⟩
        cases i with
        | zero => simp at hx; subst hx; simpa using hf
        | succ i => simpa using h2 i x (by simpa using hx)

theorem cells_get {w : World} {base : Nat} {a : Addr} {n : Nat} {vs : List Value} (h : w.cells? base a n = some vs) : vs.length = n ∧ ∀ i, i < n → w.cell? (a.add i) = vs[i]? := by
  unfold World.cells? at h
  split at h
  · obtain ⟨h1, h2⟩ := mapM_get _ _ _ h
    rw [List.length_range] at h1
    exact ⟨h1, fun i hi => h2 i i (by simp [hi])⟩
  · cases h

theorem addrAdd {a : Addr} (h : a.spot = none) (n : Nat) : a.add n = ⟨a.block, a.off + n, none⟩ := by
  unfold Addr.add
  split
  · rename_i h0; subst h0; cases a; simp_all
  · rfl

theorem choose_list {α : Type} (p : Nat → α → Prop) : ∀ n : Nat, (∀ i, i < n → ∃ x, p i x) → ∃ l : List α, l.length = n ∧ ∀ (i : Nat) (x : α), l[i]? = some x → p i x
  | 0, _ => ⟨[], rfl, by simp⟩
  | n + 1, h => by
    obtain ⟨l, h1, h2⟩ := choose_list p n (fun i hi => h i (by omega))
    obtain ⟨x, hx⟩ := h n (by omega)
    refine ⟨l ++ [x], by simp [h1], fun i y hy => ?_⟩
    rw [List.getElem?_append] at hy
    split at hy
    · exact h2 i y hy
    · rename_i hge
      have : i = n := by
        by_cases e : i - l.length = 0
        · omega
        · obtain ⟨m, hm⟩ := Nat.exists_eq_succ_of_ne_zero e
          rw [hm] at hy; simp at hy
      subst this
      have e0 : i - l.length = 0 := by omega
      rw [e0] at hy; simp at hy; subst hy; exact hx

theorem inRow_le {P : Program} : ∀ (fs : List Field) (o m : Nat), inRow P fs o m = true → o ≤ m
  | [], o, m, h => by simp only [inRow, Nat.beq_eq] at h; omega
  | f :: fs, o, m, h => by
    simp only [inRow, Bool.and_eq_true, Nat.beq_eq] at h
    have := inRow_le fs _ m h.2
    omega
theorem Cells.append {w : World} {xs ys : List T} {cs ds : List Value} (h1 : Cells w xs cs) (h2 : Cells w ys ds) : Cells w (xs ++ ys) (cs ++ ds) := by
  refine ⟨by simp [h1.1, h2.1], fun k x hk => ?_⟩
  rw [List.getElem?_append] at hk ⊢
  rw [← h1.1]
  split at hk
  · rename_i hl; rw [if_pos hl]; exact h1.2 k x hk
  · rename_i hl; rw [if_neg hl]; exact h2.2 _ x hk
theorem struct_cells {P : Program} {w : World} {cs : List Value} (Q : Field → List T → Prop) : ∀ (fs : List Field) (o : Nat), inRow P fs o cs.length = true →
    (∀ f : Field, f ∈ fs → ∃ c, Q f c ∧ Cells w c ((cs.drop f.offset).take (P.cellsOf f.type))) → ∃ xs, Cells w xs (cs.drop o) ∧ ∀ f : Field, f ∈ fs → o ≤ f.offset ∧ Q f ((xs.drop (f.offset - o)).take (P.cellsOf f.type))
  | [], o, h, _ => ⟨[], by
      simp only [inRow, Nat.beq_eq] at h
      subst h
      rw [List.drop_length]
      exact ⟨rfl, by simp⟩, by simp⟩
  | f :: fs, o, h, hq => by
    simp only [inRow, Bool.and_eq_true, Nat.beq_eq] at h
    obtain ⟨h1, h2⟩ := h
    subst h1
    have hle := inRow_le _ _ _ h2
    obtain ⟨c, hc1, hc2⟩ := hq f (by simp)
    obtain ⟨xs, hx1, hx2⟩ := struct_cells Q fs _ h2 (fun g hg => hq g (by simp [hg]))
    have hcl : c.length = P.cellsOf f.type := by rw [hc2.1, List.length_take, List.length_drop]; omega
    refine ⟨c ++ xs, ?_, fun g hg => ?_⟩
    · have e : cs.drop f.offset = (cs.drop f.offset).take (P.cellsOf f.type) ++ cs.drop (f.offset + P.cellsOf f.type) := by
        rw [← List.drop_drop, List.take_append_drop]
      rw [e]; exact hc2.append hx1
    · rcases List.mem_cons.1 hg with rfl | hg
      · refine ⟨Nat.le_refl _, ?_⟩
        rw [Nat.sub_self, List.drop_zero, ← hcl, List.take_left]; exact hc1
      · obtain ⟨h3, h4⟩ := hx2 g hg
        refine ⟨by omega, ?_⟩
        have e : (c ++ xs).drop (g.offset - f.offset) = xs.drop (g.offset - (f.offset + P.cellsOf f.type)) := by
          rw [List.drop_append, List.drop_eq_nil_of_le (by omega), List.nil_append, hcl]
          congr 1; omega
        rw [e]; exact h4

theorem open_gen {H : Type} {enc : TypeId × Value → H} {P : Program} {w : World} {spare : Nat → Bool} {held : Bool} :
    ∀ (n fuel : Nat) (t : TypeId) (cs : List Value) (y : DataW H × List MemPlace), okT P n t = true → DataW.trod enc P w 0 spare held fuel t cs = some y → ∃ xs, Has P n t xs ∧ Cells w xs cs
  | 0, _, _, _, _, ho, _ => by cases ho
  | n + 1, fuel, t, cs, y, ho, h => by
    unfold okT at ho
    unfold Has
    cases hu : P.underlying t with
    | none => rw [hu] at ho; cases ho
    | some d =>
      rw [hu] at ho
      cases d with
      | int k =>
        cases k with
        | i64 =>
          obtain ⟨z, rfl, _, hw⟩ := DataW.trod_int hu h
          have hz : -9223372036854775808 ≤ z ∧ z ≤ 9223372036854775807 := by
            have := hw
            simp only [Lit.wf, Bool.and_eq_true, decide_eq_true_eq] at this
            exact this
          exact ⟨[.int z], ⟨z, rfl, hz⟩, rfl, fun k x hk => by
            cases k with
            | zero => simp at hk; subst hk; exact ⟨_, rfl, .int z⟩
            | succ k => simp at hk⟩
        | _ => cases ho
      | bool =>
        obtain ⟨b, rfl, _⟩ := DataW.trod_bool hu h
        exact ⟨[.bool b], ⟨b, rfl⟩, rfl, fun k x hk => by
          cases k with
          | zero => simp at hk; subst hk; exact ⟨_, rfl, .bool b⟩
          | succ k => simp at hk⟩
      | slice e =>
        simp only [Bool.and_eq_true, Nat.blt_eq] at ho
        rcases DataW.trod_slice hu h with ⟨rfl, _⟩ | ⟨a, len, cap, elems, rest, m, _, rfl, _, _, hc, hm, hlen, hel, _⟩
        · exact ⟨[.ro []], ⟨[], rfl, by simp, by simp⟩, rfl, fun k x hk => by
            cases k with
            | zero => simp at hk; subst hk; exact ⟨_, rfl, .ro0 _ _⟩
            | succ k => simp at hk⟩
        · have hone : ∀ i, i < len → ∃ c : List T, Has P n e c ∧ c.length = P.cellsOf e ∧ ∃ vs : List Value, vs.length = P.cellsOf e ∧ (∀ k, k < P.cellsOf e → w.cell? ((a.add (i * P.cellsOf e)).add k) = vs[k]?) ∧ Cells w c vs := by
            intro i hi
            have := hel i hi
            cases hcs : w.cells? 0 (a.add (i * P.cellsOf e)) (P.cellsOf e) with
            | none => rw [hcs] at this; simp at this; omega
            | some vs =>
              rw [hcs] at this
              simp only [Option.bind_some] at this
              have hlt : i < elems.length := by omega
              rw [List.getElem?_eq_getElem hlt] at this
              obtain ⟨c, hc1, hc2⟩ := open_gen n m e vs _ ho.2 this
              obtain ⟨hv1, hv2⟩ := cells_get hcs
              exact ⟨c, hc1, by rw [hc2.1, hv1], vs, hv1, hv2, hc2⟩
          obtain ⟨els, hl, hp⟩ := choose_list _ len hone
          by_cases h0 : len = 0
          · have : els = [] := List.eq_nil_of_length_eq_zero (by omega)
            subst this
            subst h0
            exact ⟨[.ro []], ⟨[], rfl, by simp, by simp⟩, rfl, fun k x hk => by
              cases k with
              | zero => simp at hk; subst hk; exact ⟨_, rfl, .ro0 _ _⟩
              | succ k => simp at hk⟩
          · obtain ⟨c0, _, _, vs0, hv0, hw0, _⟩ := hone 0 (by omega)
            have hb := cell_lt (w := w) (a := (a.add (0 * P.cellsOf e)).add 0) (v := vs0[0]'(by omega)) (by rw [hw0 0 ho.1, List.getElem?_eq_getElem (by omega)])
            have hadd0 : (a.add (0 * P.cellsOf e)).add 0 = a := by simp [Addr.add]
            rw [hadd0] at hb
            have hsp := hb.2
            have hadd : ∀ i k, (a.add (i * P.cellsOf e)).add k = ⟨a.block, a.off + (i * P.cellsOf e + k), none⟩ := fun i k => by
              rw [addrAdd hsp, addrAdd rfl]; simp [Nat.add_assoc]
            have ha : a = ⟨a.block, a.off, none⟩ := by cases a; simp_all
            refine ⟨[.ro els], ⟨els, rfl, by omega, fun c hc => ?_⟩, rfl, fun k x hk => ?_⟩
            · obtain ⟨i, hi⟩ := List.getElem?_of_mem hc
              exact (hp i c hi).1
            · cases k with
              | succ k => simp at hk
              | zero =>
                simp at hk; subst hk
                refine ⟨_, rfl, ?_⟩
                rw [ha]
                refine .ro els a.block a.off len cap (P.cellsOf e) (fun i k => (w.cell? ⟨a.block, a.off + (i * P.cellsOf e + k), none⟩).getD undef) hl.symm hc hm hb.1 ho.1 (fun i c hi => (hp i c hi).2.1) (fun i c k x hi hk => ?_) (fun i c k x hi hk => ?_)
                · obtain ⟨_, h1, vs, h2, h3, h4⟩ := hp i c hi
                  obtain ⟨u, hu1, hu2⟩ := h4.2 k x hk
                  have hk' : k < P.cellsOf e := by rw [← h1]; exact (List.getElem?_eq_some_iff.1 hk).1
                  have := h3 k hk'
                  rw [hadd, hu1] at this
                  rw [this]; rfl
                · obtain ⟨_, h1, vs, h2, h3, h4⟩ := hp i c hi
                  obtain ⟨u, hu1, hu2⟩ := h4.2 k x hk
                  have hk' : k < P.cellsOf e := by rw [← h1]; exact (List.getElem?_eq_some_iff.1 hk).1
                  have := h3 k hk'
                  rw [hadd, hu1] at this
                  rw [this]; exact hu2
      | struct fs =>
        simp only [Bool.and_eq_true] at ho
        obtain ⟨ys, m, _, _, hlen, hys, hf⟩ := DataW.trod_struct hu h
        have hfld : ∀ (i : Nat) (f : Field), fs[i]? = some f → ∃ c, Has P n f.type c ∧ Cells w c ((cs.drop f.offset).take (P.cellsOf f.type)) := by
          intro i f hi
          have := hf i f hi
          have hlt : i < ys.length := by rw [hys]; exact (Array.getElem?_eq_some_iff.1 hi).1
          rw [List.getElem?_eq_getElem hlt] at this
          exact open_gen n m f.type _ _ (List.all_eq_true.1 ho.2 f (by rw [← Array.getElem?_toList] at hi; exact List.mem_of_getElem? hi)) this
        obtain ⟨xs, hx1, hx2⟩ := struct_cells (P := P) (w := w) (cs := cs) (fun f c => Has P n f.type c) fs.toList 0 (by rw [hlen]; exact ho.1) (fun f hf' => by
          obtain ⟨i, hi⟩ := List.getElem?_of_mem hf'
          exact hfld i f (by rwa [Array.getElem?_toList] at hi))
        rw [List.drop_zero] at hx1
        refine ⟨xs, ⟨by rw [hx1.1, hlen], fun i f hi => ?_⟩, hx1⟩
        have := (hx2 f (by rw [← Array.getElem?_toList] at hi; exact List.mem_of_getElem? hi)).2
        simpa using this
      | _ => cases ho

/-! ### All parameters -/
def isStruct (P : Program) (t : TypeId) : Bool := match P.underlying t with
  | some (.struct _) => true
  | _ => false
def HasR (P : Program) (t : TypeId) : R → Prop
  | .one x => isStruct P t = false ∧ Has P 20 t [x]
  | .agg xs => isStruct P t = true ∧ Has P 20 t xs
def HasAll (P : Program) : List TypeId → List R → Prop
  | [], [] => True
  | t :: ts, d :: ds => HasR P t d ∧ HasAll P ts ds
  | _, _ => False

theorem open_one {H : Type} {enc : TypeId × Value → H} {P : Program} {w : World} {spare : Nat → Bool} {held : Bool} {base : Nat} {t : TypeId} {v : Value} {d : DataW H} {ps : List MemPlace} (ho : okT P 20 t = true)
    (hv : Value.okWide P w .any base t v) (h : DataW.Trod enc P w 0 spare held t v d ps) : ∃ r, HasR P t r ∧ IRepR w (fun b => b < w.heap.size) r v := by
  obtain ⟨fuel, hf⟩ := h
  obtain ⟨xs, h1, h2, h3⟩ := open_gen 20 fuel t _ _ ho hf
  cases hst : isStruct P t with
  | true =>
    unfold isStruct at hst
    cases hu : P.underlying t with
    | none => rw [hu] at hst; cases hst
    | some dd =>
      rw [hu] at hst
      cases dd with
      | struct fs =>
        obtain ⟨cs, rfl, hsz⟩ := okWide_struct hu hv
        refine ⟨.agg xs, ⟨by unfold isStruct; rw [hu], h1⟩, cs, rfl, by simpa [Value.cells] using h2.symm, fun k x hk => ?_⟩
        obtain ⟨u, hu1, hu2⟩ := h3 k x hk
        exact ⟨u, by simpa [Value.cells] using hu1, hu2⟩
      | _ => cases hst
  | false =>
    have hone : v.cells = #[v] ∧ ∃ x, xs = [x] := by
      unfold Has at h1
      unfold isStruct at hst
      cases hu : P.underlying t with
      | none => rw [hu] at h1; exact h1.elim
      | some dd =>
        rw [hu] at h1 hst
        cases dd with
        | int k =>
          obtain ⟨z, rfl⟩ := okWide_int hu hv
          cases k with
          | i64 => obtain ⟨z', hz, _⟩ := h1; exact ⟨rfl, _, hz⟩
          | _ => exact h1.elim
        | bool =>
          obtain ⟨z, rfl⟩ := okWide_bool hu hv
          obtain ⟨z', hz⟩ := h1; exact ⟨rfl, _, hz⟩
        | slice e =>
          obtain ⟨a, l, c, rfl⟩ := okWide_slice hu hv
          obtain ⟨z', hz, _⟩ := h1
          exact ⟨rfl, _, hz⟩
        | struct fs => cases hst
        | _ => exact h1.elim
    obtain ⟨hc, x, rfl⟩ := hone
    refine ⟨.one x, ⟨hst, h1⟩, ?_⟩
    obtain ⟨u, hu1, hu2⟩ := h3 0 x rfl
    rw [hc] at hu1
    simp at hu1
    subst hu1
    exact hu2

theorem open_all {H : Type} {enc : TypeId × Value → H} {P : Program} {w : World} {spare : Nat → Bool} {held : Bool} {base : Nat} : ∀ (ts : List TypeId) (vs : List Value) (ds : List (DataW H)) (ps : List MemPlace), ts.all (okT P 20) = true →
    (∀ (j : Nat) t v, ts[j]? = some t → vs[j]? = some v → Value.okWide P w .any base t v) → DataW.TrodAll enc P w 0 spare held ts vs ds ps →
    ds.length = ts.length ∧ ∃ rs, HasAll P ts rs ∧ vs.length = rs.length ∧ ∀ (k : Nat) (r : R), rs[k]? = some r → ∃ u, vs[k]? = some u ∧ IRepR w (fun b => b < w.heap.size) r u
  | [], [], [], ps, _, _, _ => ⟨rfl, [], trivial, rfl, by simp⟩
  | t :: ts, v :: vs, d :: ds, ps, ho, hv, h => by
    obtain ⟨p, q, h1, h2, _⟩ := h
    simp only [List.all_cons, Bool.and_eq_true] at ho
    obtain ⟨r, hr1, hr2⟩ := open_one ho.1 (hv 0 t v rfl rfl) h1
    obtain ⟨hl, rs, hs1, hs2, hs3⟩ := open_all ts vs ds q ho.2 (fun j t v h3 h4 => hv (j + 1) t v (by simpa using h3) (by simpa using h4)) h2
    refine ⟨by simp [hl], r :: rs, ⟨hr1, hs1⟩, by simp [hs2], fun k r' hk => ?_⟩
    cases k with
    | zero => simp at hk; subst hk; exact ⟨v, rfl, hr2⟩
    | succ k => simpa using hs3 k r' (by simpa using hk)
  | [], _ :: _, _, _, _, _, h => h.elim
  | [], [], _ :: _, _, _, _, h => h.elim
  | _ :: _, [], _, _, _, _, h => h.elim
  | _ :: _, _ :: _, [], _, _, _, h => h.elim

/-- The arguments read in the later world as they read. -/
theorem below_all {H : Type} {enc : TypeId × Value → H} {P : Program} (hl : laidOutB P = true) {W W' : World} (hb : Below W.heap.size W W') : ∀ (ts : List TypeId) (vs : List Value) (ds : List (DataW H)) (ps : List MemPlace),
    ts.all (fun t => P.readableRec t && Nat.blt t P.types.size) = true → DataW.TrodAll enc P W 0 (fun _ => true) true ts vs ds ps → (∀ x ∈ ps, x.block < W.heap.size) → ∀ sp : Nat → Bool, (∀ x ∈ ps, sp x.block = true) → DataW.TrodAll enc P W' 0 sp true ts vs ds ps
  | [], [], [], ps, _, h, _, _, _ => h
  | t :: ts, v :: vs, d :: ds, ps, ho, h, hlt, sp, hsp => by
    obtain ⟨p, q, h1, h2, rfl⟩ := h
    simp only [List.all_cons, Bool.and_eq_true, Nat.blt_eq] at ho
    refine ⟨p, q, ?_, below_all hl hb ts vs ds q ho.2 h2 (fun x hx => hlt x (by simp [hx])) sp (fun x hx => hsp x (by simp [hx])), rfl⟩
    exact WideElems.Trod_stays hl ho.1.1 ho.1.2 h1 (fun x hx => hb.same (hlt x (by simp [hx]))) (fun x hx => hsp x (by simp [hx]))
  | [], _ :: _, _, _, _, h, _, _, _ => h.elim
  | [], [], _ :: _, _, _, h, _, _, _ => h.elim
  | _ :: _, [], _, _, _, h, _, _, _ => h.elim
  | _ :: _, _ :: _, [], _, _, h, _, _, _ => h.elim

section
variable {H : Type} {enc : TypeId × Value → H} {P : Program}
theorem post_of_below' {f : Func} {s : ChangeSpec} {apart fresh handsOn again : Bool} {W W' : World} {args : Array Value} {v : Value} {ds gs : List (DataW H)} {before pa pv : List MemPlace}
    (hW : DataW.Whole enc P f.params.toList s.vars apart W args.toList ds gs before)
    (hres : ∀ (b : Nat) (sp : Nat → Bool) (hd : Bool), DataW.TrodAll enc P W' b sp hd f.resultTypes.toList (v.resultList f.resultTypes.size) (s.fn H (ds ++ gs)).results [])
    (hargs : ∀ sp : Nat → Bool, (∀ p ∈ before, sp p.block = true) → DataW.TrodAll enc P W' 0 sp true f.params.toList args.toList (s.fn H (ds ++ gs)).args pa)
    (hvars : ∀ sp : Nat → Bool, (∀ p ∈ before, sp p.block = true) → DataW.TrodVars enc P W' sp s.vars (s.fn H (ds ++ gs)).vars pv)
    (hps : before = pa ++ pv) (hb : Below W.heap.size W W')
    (hok : ∀ (j : Nat) (t : TypeId) (r : Value), f.resultTypes[j]? = some t → (v.resultList f.resultTypes.size)[j]? = some r → Value.okWide P W' .any 0 t r) :
    s.post enc P f apart fresh handsOn again W args v W' := by
  have hlt : ∀ p ∈ before, p.block < W.heap.size := fun p hp => hW.lt p hp
  have hold : ∀ p ∈ before, (fun b => decide (b < W.heap.size)) p.block = true := fun p hp => by simpa using hlt p hp
  refine ⟨ds, gs, before, [], pa, pv, hW, hres _ _ _, hargs _ hold, hvars _ hold, World.keptBut_mono (fun p hp => ⟨hp, ?_⟩) (hb.frame (· ∈ before)), fun _ => ?_⟩
  · rw [hps, List.mem_append] at hp
    exact Or.inr hp
  · obtain ⟨_, _, _, _, _, hz, hn⟩ := hW
    refine ⟨hok, _, _, ([] ++ pa) ++ pv, ⟨[] ++ pa, pv, trodAll_append (hargs _ (fun _ _ => rfl)) (hres _ _ _), hvars _ (fun _ _ => rfl), rfl, ?_, ?_⟩, ?_⟩
    · intro b off hp
      have hin : MemPlace.cell b off ∈ before := by rw [hps]; simpa using hp
      rw [hb.frozen (hlt _ hin)]
      exact hz b off hin
    · intro ha
      have := hn ha
      rw [hps] at this
      simpa using this
    · intro p hp _
      rw [hps]
      simpa using hp
end

/-- A law that says true. -/
theorem law_post {H : Type} {enc : TypeId × Value → H} {P : Program} {f : FuncId} {fn : Func} {s : ChangeSpec} {tb : TypeId} (hl : laidOutB P = true) (hro : fn.params.toList.all (fun t => P.readableRec t && Nat.blt t P.types.size) = true) (hok : fn.params.toList.all (okT P 20) = true)
    (hres : fn.resultTypes = #[tb]) (htb : P.underlying tb = some .bool) (hvar : s.vars = []) (hfn : ∀ ds : List (DataW H), ds.length = fn.params.size → s.fn H ds = { results := [.lit (.bool true)], args := ds })
    (hlaw : ∀ rs, HasAll P fn.params.toList rs → CallSpec P f rs (.t (.bool true)))
    (W : World) (base : Nat) (args : Array Value) (ds gs : List (DataW H)) (before : List MemPlace) (hval : ∀ (j : Nat) t v, fn.params[j]? = some t → args[j]? = some v → Value.okWide P W .any base t v)
    (hW : DataW.Whole enc P fn.params.toList s.vars false W args.toList ds gs before) :
    Calls P f args W fun e W' => ∃ v, e = .returned v ∧ s.post enc P fn false true false false W args v W' := by
  have hW' := hW
  obtain ⟨p, q, hA, hV, rfl, hfz, hnd⟩ := hW
  rw [hvar] at hV
  obtain ⟨rfl, rfl⟩ := trodVars_none hV
  have hlt : ∀ x ∈ p ++ [], x.block < W.heap.size := fun p hp => hW'.lt p hp
  obtain ⟨hdl, rs, h1, h2, h3⟩ := open_all (P := P) fn.params.toList args.toList ds p hok (fun j t v ht hv => hval j t v (by simpa using ht) (by simpa using hv)) hA
  refine ((hlaw rs h1).run W (fun b => b < W.heap.size) args (fun _ h => h) (by simpa using h2) (fun k d hk => ?_)).mono fun e W' hP => ?_
  · obtain ⟨u, hu1, hu2⟩ := h3 k d hk
    exact ⟨u, by simpa using hu1, hu2⟩
  · obtain ⟨v, rfl, hL, g, _, _, hp⟩ := hP
    have hv : v = .bool true := by
      have := Rep.im' hp rfl
      cases this; rfl
    subst hv
    have hf := hfn (ds ++ []) (by simpa using hdl)
    refine ⟨_, rfl, post_of_below' (pa := p) (pv := []) hW' (fun b sp hd => ?_) (fun sp hsp => ?_) (fun sp _ => ?_) rfl hL ?_⟩
    · rw [hf, hres]
      exact trodAll_cons_mk (shut_bool htb _) trodAll_mk0
    · rw [hf]
      have := below_all hl hL fn.params.toList args.toList ds p hro hA (fun x hx => hlt x (by simp [hx])) sp (fun x hx => hsp x (by simp [hx]))
      simpa using this
    · rw [hf, hvar]; rfl
    · exact ok_one hres rfl (okWide_bool_mk htb _)

theorem HasAll.cons {P : Program} {t : TypeId} {ts : List TypeId} {rs : List R} (h : HasAll P (t :: ts) rs) : ∃ r rs', rs = r :: rs' ∧ HasR P t r ∧ HasAll P ts rs' := by
  cases rs with
  | nil => exact h.elim
  | cons r rs => exact ⟨r, rs, rfl, h.1, h.2⟩
theorem HasAll.nil {P : Program} {rs : List R} (h : HasAll P [] rs) : rs = [] := by
  cases rs with
  | nil => rfl
  | cons r rs => exact h.elim
def isI64 (P : Program) (t : TypeId) : Bool := match P.underlying t with
  | some (.int .i64) => true
  | _ => false
theorem has_int {P : Program} {n : Nat} {t : TypeId} {xs : List T} (hi : isI64 P t = true) (h : Has P n t xs) : ∃ z, xs = [.int z] ∧ -9223372036854775808 ≤ z ∧ z ≤ 9223372036854775807 := by
  cases n with
  | zero => exact h.elim
  | succ n =>
    unfold Has at h
    unfold isI64 at hi
    cases hu : P.underlying t with
    | none => rw [hu] at hi; cases hi
    | some d =>
      rw [hu] at hi h
      cases d with
      | int k => cases k with
        | i64 => exact h
        | _ => cases hi
      | _ => cases hi
theorem HasR.int {P : Program} {t : TypeId} {r : R} (h : HasR P t r) (hi : isI64 P t = true) : ∃ z, r = .one (.int z) ∧ -9223372036854775808 ≤ z ∧ z ≤ 9223372036854775807 := by
  have hs : isStruct P t = false := by
    unfold isI64 at hi
    unfold isStruct
    cases hu : P.underlying t with
    | none => rfl
    | some d =>
      rw [hu] at hi
      cases d with
      | struct fs => cases hi
      | _ => rfl
  cases r with
  | one x =>
    obtain ⟨z, hz, hb⟩ := has_int hi h.2
    simp at hz
    exact ⟨z, by rw [hz], hb⟩
  | agg xs => have := h.1; rw [hs] at this; cases this
/-- A struct of m plain ints. -/
def intsT (P : Program) (t : TypeId) (m : Nat) : Bool := match P.underlying t with
  | some (.struct fs) => Nat.beq (P.cellsOf t) m && (List.range m).all fun i => match fs[i]? with
    | some f => Nat.beq f.offset i && Nat.beq (P.cellsOf f.type) 1 && isI64 P f.type
    | none => false
  | _ => false
def toInt : T → Int
  | .int z => z
  | _ => 0
def i64 (z : Int) : Prop := -9223372036854775808 ≤ z ∧ z ≤ 9223372036854775807
theorem has_ints {P : Program} {n m : Nat} {t : TypeId} {xs : List T} (hi : intsT P t m = true) (h : Has P n t xs) : ∃ zs : List Int, xs = zs.map T.int ∧ zs.length = m ∧ ∀ z ∈ zs, i64 z := by
  cases n with
  | zero => exact h.elim
  | succ n =>
    unfold Has at h
    unfold intsT at hi
    cases hu : P.underlying t with
    | none => rw [hu] at hi; cases hi
    | some d =>
      rw [hu] at hi h
      cases d with
      | struct fs =>
        simp only [Bool.and_eq_true, Nat.beq_eq, List.all_eq_true, List.mem_range] at hi
        obtain ⟨hl, hf⟩ := h
        have key : ∀ i, i < m → ∃ z, xs[i]? = some (.int z) ∧ i64 z := by
          intro i him
          have h1 := hi.2 i him
          cases hfi : fs[i]? with
          | none => rw [hfi] at h1; cases h1
          | some f =>
            rw [hfi] at h1
            simp only [Bool.and_eq_true, Nat.beq_eq] at h1
            obtain ⟨z, hz, hb⟩ := has_int h1.2 (hf i f hfi)
            rw [h1.1.1, h1.1.2] at hz
            refine ⟨z, ?_, hb⟩
            have : ((xs.drop i).take 1)[0]? = some (.int z) := by rw [hz]; rfl
            simpa using this
        refine ⟨xs.map toInt, ?_, by rw [List.length_map]; omega, fun z hz => ?_⟩
        · apply List.ext_getElem?
          intro i
          by_cases him : i < m
          · obtain ⟨z, hz, _⟩ := key i him
            simp [hz, toInt]
          · have : xs[i]? = none := List.getElem?_eq_none (by omega)
            simp [this]
        · obtain ⟨x, hx, rfl⟩ := List.mem_map.1 hz
          obtain ⟨i, hi'⟩ := List.getElem?_of_mem hx
          obtain ⟨z, hz, hb⟩ := key i (by have := (List.getElem?_eq_some_iff.1 hi').1; omega)
          rw [hz] at hi'
          cases hi'
          exact hb
      | _ => cases hi
theorem HasR.ints {P : Program} {t : TypeId} {m : Nat} {r : R} (h : HasR P t r) (hi : intsT P t m = true) : ∃ zs : List Int, r = .agg (zs.map T.int) ∧ zs.length = m ∧ ∀ z ∈ zs, i64 z := by
  have hs : isStruct P t = true := by
    unfold intsT at hi
    unfold isStruct
    cases hu : P.underlying t with
    | none => rw [hu] at hi; cases hi
    | some d =>
      rw [hu] at hi
      cases d with
      | struct fs => rfl
      | _ => cases hi
  cases r with
  | one x => have := h.1; rw [hs] at this; cases this
  | agg xs =>
    obtain ⟨zs, h1, h2, h3⟩ := has_ints hi h.2
    exact ⟨zs, by rw [h1], h2, h3⟩
def elemT (P : Program) (t : TypeId) : TypeId := match P.underlying t with
  | some (.slice e) => e
  | _ => 0
/-- A slice: nil, or elements each of which has its type. -/
theorem has_slice {P : Program} {n : Nat} {t e : TypeId} {xs : List T} (he : elemOf' P t = some e) (h : Has P (n + 1) t xs) : ∃ els, xs = [.ro els] ∧ els.length ≤ maxLen ∧ ∀ c ∈ els, Has P n e c := by
  unfold Has at h
  unfold elemOf' at he
  cases hu : P.underlying t with
  | none => rw [hu] at he; cases he
  | some d =>
    rw [hu] at he h
    cases d with
    | slice e' => cases he; exact h
    | _ => cases he
theorem HasR.slice {P : Program} {t e : TypeId} {r : R} (h : HasR P t r) (he : elemOf' P t = some e) : ∃ els, r = .one (.ro els) ∧ els.length ≤ maxLen ∧ ∀ c ∈ els, Has P 19 e c := by
  have hs : isStruct P t = false := by
    unfold elemOf' at he
    unfold isStruct
    cases hu : P.underlying t with
    | none => rfl
    | some d =>
      rw [hu] at he
      cases d with
      | struct fs => cases he
      | _ => rfl
  cases r with
  | one x =>
    obtain ⟨els, h1, h2⟩ := has_slice he h.2
    simp at h1; exact ⟨els, by rw [h1], h2⟩
  | agg xs => have := h.1; rw [hs] at this; cases this
/-- A slice of ints. -/
theorem hasR_list {P : Program} {t e : TypeId} {r : R} (h : HasR P t r) (he : elemOf' P t = some e) (hi : isI64 P e = true) : ∃ zs : List Int, r = .one (.ro (ints zs)) ∧ zs.length ≤ maxLen ∧ ∀ z ∈ zs, i64 z := by
  obtain ⟨els, rfl, hl, hc⟩ := h.slice he
  have key : ∀ c ∈ els, ∃ z, c = [T.int z] ∧ i64 z := fun c hm => has_int hi (hc c hm)
  refine ⟨els.map (fun c => toInt (c.getD 0 (.int 0))), ?_, by rw [List.length_map]; exact hl, fun z hz => ?_⟩
  · have : els = ints (els.map (fun c => toInt (c.getD 0 (.int 0)))) := by
      apply List.ext_getElem?
      intro i
      cases hh : els[i]? with
      | none => simp [ints, hh]
      | some c =>
        obtain ⟨z, rfl, _⟩ := key c (List.mem_of_getElem? hh)
        simp [ints, hh, toInt]
    rw [← this]
  · obtain ⟨c, hm, rfl⟩ := List.mem_map.1 hz
    obtain ⟨z, rfl, hb⟩ := key c hm
    exact hb
/-- A struct all of whose fields are of one cell, by its fields' types. -/
def flds (P : Program) (t : TypeId) (l : List TypeId) : Bool := match P.underlying t with
  | some (.struct fs) => Nat.beq (P.cellsOf t) l.length && (List.range l.length).all fun i => match fs[i]? with
    | some f => Nat.beq f.offset i && Nat.beq (P.cellsOf f.type) 1 && Nat.beq f.type (l.getD i 0)
    | none => false
  | _ => false
theorem has_flds {P : Program} {n : Nat} {t : TypeId} {l : List TypeId} {xs : List T} (hi : flds P t l = true) (h : Has P (n + 1) t xs) : xs.length = l.length ∧ ∀ (i : Nat) (ty : TypeId) (x : T), l[i]? = some ty → xs[i]? = some x → Has P n ty [x] := by
  unfold Has at h
  unfold flds at hi
  cases hu : P.underlying t with
  | none => rw [hu] at hi; cases hi
  | some d =>
    rw [hu] at hi h
    cases d with
    | struct fs =>
      simp only [Bool.and_eq_true, Nat.beq_eq, List.all_eq_true, List.mem_range] at hi
      obtain ⟨hl, hf⟩ := h
      refine ⟨by omega, fun i ty x h1 h2 => ?_⟩
      have him : i < l.length := (List.getElem?_eq_some_iff.1 h1).1
      have h3 := hi.2 i him
      cases hfi : fs[i]? with
      | none => rw [hfi] at h3; cases h3
      | some f =>
        rw [hfi] at h3
        simp only [Bool.and_eq_true, Nat.beq_eq] at h3
        have h4 := hf i f hfi
        rw [h3.1.1, h3.1.2] at h4
        have e1 : f.type = ty := by rw [h3.2]; simp [List.getD, h1]
        have hx : i < xs.length := (List.getElem?_eq_some_iff.1 h2).1
        have e2 : (xs.drop i).take 1 = [x] := by
          rw [List.drop_eq_getElem_cons hx]
          rw [List.getElem?_eq_getElem hx] at h2
          simp at h2
          simp [h2]
        rw [e1, e2] at h4
        exact h4
    | _ => cases hi
theorem hasR_flds {P : Program} {t : TypeId} {l : List TypeId} {r : R} (h : HasR P t r) (hi : flds P t l = true) : ∃ xs, r = .agg xs ∧ xs.length = l.length ∧ ∀ (i : Nat) (ty : TypeId) (x : T), l[i]? = some ty → xs[i]? = some x → Has P 19 ty [x] := by
  have hs : isStruct P t = true := by
    unfold flds at hi
    unfold isStruct
    cases hu : P.underlying t with
    | none => rw [hu] at hi; cases hi
    | some d =>
      rw [hu] at hi
      cases d with
      | struct fs => rfl
      | _ => cases hi
  cases r with
  | one x => have := h.1; rw [hs] at this; cases this
  | agg xs => exact ⟨xs, rfl, has_flds hi h.2⟩
end Go.Ev
