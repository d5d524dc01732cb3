/-
  Own work. From what the row's reading says of the arguments to the contract's arguments, and back.
-/
import Derived.Test.YtamaghlnjchhbaaPuAc
import Derived.ProofKit
import Derived.OpenShut
import Derived.Carry
import Derived.ChangeSame
import Derived.Lib.SmallJoins
namespace Go.Pu
open Go Go.ChangeShapes Go.WideShapes Go.ChangeAt Go.RowKit
set_option linter.unusedVariables false

/-- Integers in range, lists not too long. -/
def InR : (t : Ty) → t.den → Prop
  | .int _, z => -9223372036854775808 ≤ z ∧ z ≤ 9223372036854775807
  | .bool, _ => True
  | .unit, _ => True
  | .pr a b, x => InR a x.1 ∧ InR b x.2
  | .sl _ a, xs => List.length xs ≤ maxLen ∧ ∀ (y : a.den), y ∈ (show List a.den from xs) → InR a y
  | .mp, _ => True
/-- Fields in a row, from a place on, up to the end. -/
def inRow (P : Program) : List Field → Nat → Nat → Bool
  | [], o, m => Nat.beq o m
  | f :: fs, o, m => Nat.beq f.offset o && inRow P fs (o + P.cellsOf f.type) m
def okT (P : Program) : Nat → TypeId → Bool
  | 0, _ => false
  | n + 1, t => match P.underlying t with
    | some (.int .i64) => true
    | some .bool => true
    | some (.slice e) => Nat.blt 0 (P.cellsOf e) && okT P n e
    | some (.struct fs) => inRow P fs.toList 0 (P.cellsOf t) && fs.toList.all (fun f => okT P n f.type)
    | _ => false

theorem cell_lt {w : World} {a : Addr} {v : Value} (h : w.cell? a = some v) : a.block < w.heap.size ∧ a.spot = none := by
  unfold World.cell? at h
  cases hh : w.heap[a.block]? with
  | none => rw [hh] at h; cases h
  | some o =>
    rw [hh] at h
    refine ⟨(Array.getElem?_eq_some_iff.1 hh).1, ?_⟩
    cases o with
    | cells c _ _ =>
      simp only at h
      split at h
      · cases h
      · rename_i hs; simpa using hs
    | _ => cases h

theorem mapM_get {α β : Type} (f : α → Option β) : ∀ (l : List α) (r : List β), l.mapM f = some r → r.length = l.length ∧ ∀ (i : Nat) (x : α), l[i]? = some x → f x = r[i]?
  | [], r, h => by
    simp at h; subst h; simp
  | a :: l, r, h => by
    rw [List.mapM_cons] at h
    cases hf : f a with
    | none => rw [hf] at h; cases h
    | some b =>
      rw [hf] at h
      cases hm : l.mapM f with
      | none => rw [hm] at h; cases h
      | some bs =>
        rw [hm] at h
        obtain rfl : b :: bs = r := by simpa using h
        obtain ⟨h1, h2⟩ := mapM_get f l bs hm
        refine ⟨by simp [h1], fun i x hx => ?_⟩
        cases i with
        | zero => simp at hx; subst hx; simpa using hf
        | succ i => simpa using h2 i x (by simpa using hx)

theorem cells_get {w : World} {base : Nat} {a : Addr} {n : Nat} {vs : List Value} (h : w.cells? base a n = some vs) : vs.length = n ∧ ∀ i, i < n → w.cell? (a.add i) = vs[i]? := by
  unfold World.cells? at h
  split at h
  · obtain ⟨h1, h2⟩ := mapM_get _ _ _ h
    rw [List.length_range] at h1
    exact ⟨h1, fun i hi => h2 i i (by simp [hi])⟩
  · cases h

theorem addrAdd {a : Addr} (h : a.spot = none) (n : Nat) : a.add n = ⟨a.block, a.off + n, none⟩ := by
  unfold Addr.add
  split
  · rename_i h0; subst h0; cases a; simp_all
  · rfl

theorem choose_list {α : Type} (p : Nat → α → Prop) : ∀ n : Nat, (∀ i, i < n → ∃ x, p i x) → ∃ l : List α, l.length = n ∧ ∀ (i : Nat) (x : α), l[i]? = some x → p i x
  | 0, _ => ⟨[], rfl, by simp⟩
  | n + 1, h => by
    obtain ⟨l, h1, h2⟩ := choose_list p n (fun i hi => h i (by omega))
    obtain ⟨x, hx⟩ := h n (by omega)
    refine ⟨l ++ [x], by simp [h1], fun i y hy => ?_⟩
    rw [List.getElem?_append] at hy
    split at hy
    · exact h2 i y hy
    · rename_i hge
      have : i = n := by
        by_cases e : i - l.length = 0
        · omega
        · obtain ⟨m, hm⟩ := Nat.exists_eq_succ_of_ne_zero e
          rw [hm] at hy; simp at hy
      subst this
      have e0 : i - l.length = 0 := by omega
      rw [e0] at hy; simp at hy; subst hy; exact hx

theorem inRow_le {P : Program} : ∀ (fs : List Field) (o m : Nat), inRow P fs o m = true → o ≤ m
  | [], o, m, h => by simp only [inRow, Nat.beq_eq] at h; omega
  | f :: fs, o, m, h => by
    simp only [inRow, Bool.and_eq_true, Nat.beq_eq] at h
    have := inRow_le fs _ m h.2
    omega
def allG (w : World) : G := { S := fun b => b < w.heap.size, own := fun _ => none, hdr := fun _ => undef }
def CellsC (w : World) (qs : List C) (cs : List Value) : Prop := qs.length = cs.length ∧ ∀ (k : Nat) (q : C), qs[k]? = some q → ∃ u, cs[k]? = some u ∧ CRep w (allG w) q u
theorem CellsC.append {w : World} {xs ys : List C} {cs ds : List Value} (h1 : CellsC w xs cs) (h2 : CellsC w ys ds) : CellsC w (xs ++ ys) (cs ++ ds) := by
  refine ⟨by simp [h1.1, h2.1], fun k x hk => ?_⟩
  rw [List.getElem?_append] at hk ⊢
  rw [← h1.1]
  split at hk
  · rename_i hl; rw [if_pos hl]; exact h1.2 k x hk
  · rename_i hl; rw [if_neg hl]; exact h2.2 _ x hk
theorem struct_open {P : Program} {w : World} {cs : List Value} {n : Nat} : ∀ (fs : List Field) (o : Nat) (ty : Ty), inRow P fs o cs.length = true → structTy (fs.map fun f => tyId P n f.type) = some ty →
    (∀ f : Field, f ∈ fs → ∀ ty, tyId P n f.type = some ty → ∃ x : ty.den, InR ty x ∧ CellsC w (enc none ty x) ((cs.drop f.offset).take (P.cellsOf f.type))) → ∃ x : ty.den, InR ty x ∧ CellsC w (enc none ty x) (cs.drop o)
  | [], o, ty, h, ht, _ => by
    simp only [inRow, Nat.beq_eq] at h
    subst h
    simp only [List.map_nil, structTy, Option.some.injEq] at ht
    subst ht
    exact ⟨(), trivial, by rw [List.drop_length]; exact ⟨rfl, fun k q h => by simp [enc] at h⟩⟩
  | f :: fs, o, ty, h, ht, hq => by
    simp only [inRow, Bool.and_eq_true, Nat.beq_eq] at h
    obtain ⟨h1, h2⟩ := h
    subst h1
    have hle := inRow_le _ _ _ h2
    have esplit : cs.drop f.offset = (cs.drop f.offset).take (P.cellsOf f.type) ++ cs.drop (f.offset + P.cellsOf f.type) := by
      rw [← List.drop_drop, List.take_append_drop]
    cases fs with
    | nil =>
      simp only [List.map_cons, List.map_nil, structTy] at ht
      obtain ⟨x, hx1, hx2⟩ := hq f (by simp) ty ht
      refine ⟨x, hx1, ?_⟩
      simp only [inRow, Nat.beq_eq] at h2
      have : (cs.drop f.offset).take (P.cellsOf f.type) = cs.drop f.offset := List.take_of_length_le (by rw [List.length_drop]; omega)
      rwa [this] at hx2
    | cons f2 fs =>
      simp only [List.map_cons, structTy] at ht
      cases h3 : tyId P n f.type with
      | none => rw [h3] at ht; cases ht
      | some a =>
        cases h4 : structTy ((f2 :: fs).map fun f => tyId P n f.type) with
        | none =>
          rw [h3] at ht
          simp only [List.map_cons] at h4
          rw [h4] at ht; cases ht
        | some b =>
          rw [h3] at ht
          have h4' := h4
          simp only [List.map_cons] at h4
          rw [h4] at ht
          simp only [Option.some.injEq] at ht
          subst ht
          obtain ⟨x, hx1, hx2⟩ := hq f (by simp) a h3
          obtain ⟨y, hy1, hy2⟩ := struct_open (f2 :: fs) _ b h2 h4' (fun g hg => hq g (by simp [hg]))
          refine ⟨(x, y), ⟨hx1, hy1⟩, ?_⟩
          simp only [enc]
          rw [esplit]
          exact hx2.append hy2
theorem open_gen {H : Type} {en : TypeId × Value → H} {P : Program} {w : World} {spare : Nat → Bool} {held : Bool} :
    ∀ (n fuel : Nat) (t : TypeId) (ty : Ty) (cs : List Value) (y : DataW H × List MemPlace), okT P n t = true → tyId P n t = some ty → DataW.trod en P w 0 spare held fuel t cs = some y → ∃ x : ty.den, InR ty x ∧ CellsC w (enc none ty x) cs
  | 0, _, _, _, _, _, ho, _, _ => by cases ho
  | n + 1, fuel, t, ty, cs, y, ho, ht, h => by
    unfold okT at ho
    unfold tyId at ht
    cases hu : P.underlying t with
    | none => rw [hu] at ho; cases ho
    | some d =>
      rw [hu] at ho ht
      cases d with
      | int k =>
        cases k with
        | i64 =>
          simp only [Option.some.injEq] at ht
          subst ht
          obtain ⟨z, rfl, _, hw⟩ := DataW.trod_int hu h
          have hz : -9223372036854775808 ≤ z ∧ z ≤ 9223372036854775807 := by
            have := hw
            simp only [Lit.wf, Bool.and_eq_true, decide_eq_true_eq] at this
            exact this
          exact ⟨z, hz, rfl, fun k x hk => by
            cases k with
            | zero => simp [enc] at hk; subst hk; exact ⟨_, rfl, .int _ z⟩
            | succ k => simp [enc] at hk⟩
        | _ => cases ho
      | bool =>
        simp only [Option.some.injEq] at ht
        subst ht
        obtain ⟨b, rfl, _⟩ := DataW.trod_bool hu h
        exact ⟨b, trivial, rfl, fun k x hk => by
          cases k with
          | zero => simp [enc] at hk; subst hk; exact ⟨_, rfl, .bool b⟩
          | succ k => simp [enc] at hk⟩
      | slice e =>
        simp only [Bool.and_eq_true, Nat.blt_eq] at ho
        simp only at ht
        cases hte : tyId P n e with
        | none => rw [hte] at ht; cases ht
        | some a =>
          rw [hte] at ht
          simp only [Option.some.injEq] at ht
          subst ht
          rcases DataW.trod_slice hu h with ⟨rfl, _⟩ | ⟨ad, len, cap, elems, rest, m, _, rfl, _, _, hc, hm, hlen, hel, _⟩
          · exact ⟨([] : List a.den), ⟨by simp, fun y hy => by simp at hy⟩, rfl, fun k x hk => by
              cases k with
              | zero => simp [enc] at hk; subst hk; exact ⟨_, rfl, .ro0 _ _ _⟩
              | succ k => simp [enc] at hk⟩
          · have hone : ∀ i, i < len → ∃ x : a.den, InR a x ∧ a.n = P.cellsOf e ∧ ∃ vs : List Value, vs.length = P.cellsOf e ∧ (∀ k, k < P.cellsOf e → w.cell? ((ad.add (i * P.cellsOf e)).add k) = vs[k]?) ∧ CellsC w (enc none a x) vs := by
              intro i hi
              have := hel i hi
              cases hcs : w.cells? 0 (ad.add (i * P.cellsOf e)) (P.cellsOf e) with
              | none => rw [hcs] at this; simp at this; omega
              | some vs =>
                rw [hcs] at this
                simp only [Option.bind_some] at this
                have hlt : i < elems.length := by omega
                rw [List.getElem?_eq_getElem hlt] at this
                obtain ⟨c, hc1, hc2⟩ := open_gen n m e a vs _ ho.2 hte this
                obtain ⟨hv1, hv2⟩ := cells_get hcs
                exact ⟨c, hc1, by rw [← hv1, ← hc2.1, enc_length], vs, hv1, hv2, hc2⟩
            obtain ⟨els, hl, hp⟩ := choose_list _ len hone
            by_cases h0 : len = 0
            · subst h0
              exact ⟨([] : List a.den), ⟨by simp, fun y hy => by simp at hy⟩, rfl, fun k x hk => by
                cases k with
                | zero => simp [enc] at hk; subst hk; exact ⟨_, rfl, .ro0 _ _ _⟩
                | succ k => simp [enc] at hk⟩
            · obtain ⟨c0, _, _, vs0, hv0, hw0, _⟩ := hone 0 (by omega)
              have hb := cell_lt (w := w) (a := (ad.add (0 * P.cellsOf e)).add 0) (v := vs0[0]'(by omega)) (by rw [hw0 0 ho.1, List.getElem?_eq_getElem (by omega)])
              have hadd0 : (ad.add (0 * P.cellsOf e)).add 0 = ad := by simp [Addr.add]
              rw [hadd0] at hb
              have hsp := hb.2
              have hadd : ∀ i k, (ad.add (i * P.cellsOf e)).add k = ⟨ad.block, ad.off + (i * P.cellsOf e + k), none⟩ := fun i k => by
                rw [addrAdd hsp, addrAdd rfl]; simp [Nat.add_assoc]
              have ha : ad = ⟨ad.block, ad.off, none⟩ := by cases ad; simp_all
              refine ⟨els, ⟨by show els.length ≤ maxLen; omega, fun c hc => ?_⟩, rfl, fun k x hk => ?_⟩
              · obtain ⟨i, hi⟩ := List.getElem?_of_mem hc
                exact (hp i c hi).1
              · cases k with
                | succ k => simp [enc] at hk
                | zero =>
                  simp only [enc, List.getElem?_cons_zero, Option.some.injEq] at hk
                  subst hk
                  refine ⟨_, rfl, ?_⟩
                  rw [ha]
                  have get : ∀ (i : Nat) (c : List C), (List.map (enc none a) els)[i]? = some c → ∃ y, els[i]? = some y ∧ c = enc none a y := fun i c hi => by
                    rw [List.getElem?_map, Option.map_eq_some_iff] at hi
                    obtain ⟨y, hy, rfl⟩ := hi
                    exact ⟨y, hy, rfl⟩
                  refine .ro none _ ad.block ad.off len cap (P.cellsOf e) (fun i k => (w.cell? ⟨ad.block, ad.off + (i * P.cellsOf e + k), none⟩).getD undef) (by rw [List.length_map]; exact hl.symm) hc hm hb.1 ho.1 (fun i c hi => ?_) (fun i c k x hi hk => ?_) (fun i c k x hi hk => ?_)
                  · obtain ⟨y, hy, rfl⟩ := get i c hi
                    rw [enc_length]; exact (hp i y hy).2.1
                  · obtain ⟨y, hy, rfl⟩ := get i c hi
                    obtain ⟨_, h1, vs, h2, h3, h4⟩ := hp i y hy
                    obtain ⟨u, hu1, hu2⟩ := h4.2 k x hk
                    have hk' : k < P.cellsOf e := by rw [← h1, ← enc_length none a y]; exact (List.getElem?_eq_some_iff.1 hk).1
                    have := h3 k hk'
                    rw [hadd, hu1] at this
                    rw [this]; rfl
                  · obtain ⟨y, hy, rfl⟩ := get i c hi
                    obtain ⟨_, h1, vs, h2, h3, h4⟩ := hp i y hy
                    obtain ⟨u, hu1, hu2⟩ := h4.2 k x hk
                    have hk' : k < P.cellsOf e := by rw [← h1, ← enc_length none a y]; exact (List.getElem?_eq_some_iff.1 hk).1
                    have := h3 k hk'
                    rw [hadd, hu1] at this
                    rw [this]; exact hu2
      | struct fs =>
        simp only [Bool.and_eq_true] at ho
        obtain ⟨ys, m, _, _, hlen, hys, hf⟩ := DataW.trod_struct hu h
        have hfld : ∀ (i : Nat) (f : Field), fs[i]? = some f → ∀ ty, tyId P n f.type = some ty → ∃ x : ty.den, InR ty x ∧ CellsC w (enc none ty x) ((cs.drop f.offset).take (P.cellsOf f.type)) := by
          intro i f hi ty hty
          have := hf i f hi
          have hlt : i < ys.length := by rw [hys]; exact (Array.getElem?_eq_some_iff.1 hi).1
          rw [List.getElem?_eq_getElem hlt] at this
          exact open_gen n m f.type ty _ _ (List.all_eq_true.1 ho.2 f (by rw [← Array.getElem?_toList] at hi; exact List.mem_of_getElem? hi)) hty this
        have := struct_open (P := P) (w := w) (cs := cs) (n := n) fs.toList 0 ty (by rw [hlen]; exact ho.1) ht (fun f hf' => by
          obtain ⟨i, hi⟩ := List.getElem?_of_mem hf'
          exact hfld i f (by rwa [Array.getElem?_toList] at hi))
        rwa [List.drop_zero] at this
      | _ => cases ho
end Go.Pu
