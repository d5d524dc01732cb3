/-
  Own work. From the contract of a law's function to the row.
-/
import Derived.Test.YtamaghlnjchhbaaPuAd
namespace Go.Pu
open Go Go.ChangeShapes Go.WideShapes Go.ChangeAt Go.RowKit
set_option linter.unusedVariables false

def ArgRep (w : World) (agg : Bool) (ty : Ty) (x : ty.den) (v : Value) : Prop := if agg then AggRep w (allG w) (enc none ty x) v else ∃ q, enc none ty x = [q] ∧ CRep w (allG w) q v
theorem open_one {H : Type} {en : TypeId × Value → H} {P : Program} {w : World} {spare : Nat → Bool} {held : Bool} {base : Nat} {t : TypeId} {ty : Ty} {v : Value} {d : DataW H} {ps : List MemPlace} (ho : okT P 20 t = true) (ht : tyId P 20 t = some ty)
    (hv : Value.okWide P w .any base t v) (h : DataW.Trod en P w 0 spare held t v d ps) : ∃ x : ty.den, InR ty x ∧ ArgRep w (isAggT P t) ty x v := by
  obtain ⟨fuel, hf⟩ := h
  obtain ⟨x, h1, h2, h3⟩ := open_gen 20 fuel t ty _ _ ho ht hf
  refine ⟨x, h1, ?_⟩
  have one : v.cells = #[v] → isAggT P t = false → ArgRep w (isAggT P t) ty x v := fun hc ha => by
    unfold ArgRep
    rw [ha]
    simp only [Bool.false_eq_true, if_false]
    rw [hc] at h2 h3
    match hq : enc none ty x, h2, h3 with
    | [q], _, h3 =>
      obtain ⟨u, hu, hr⟩ := h3 0 q rfl
      simp only [List.getElem?_cons_zero, Option.some.injEq] at hu
      subst hu
      exact ⟨q, rfl, hr⟩
    | [], h2, _ => simp at h2
    | _ :: _ :: _, h2, _ => simp at h2
  unfold okT at ho
  cases hu : P.underlying t with
  | none => rw [hu] at ho; cases ho
  | some dd =>
    rw [hu] at ho
    cases dd with
    | struct fs =>
      obtain ⟨cs, rfl, hsz⟩ := okWide_struct hu hv
      have ha : isAggT P t = true := by simp [isAggT, aggOf, hu]
      unfold ArgRep
      rw [ha]
      refine ⟨cs, rfl, by simpa [Value.cells] using h2.symm, fun k q hk => ?_⟩
      obtain ⟨u, hu1, hu2⟩ := h3 k q hk
      exact ⟨u, by simpa [Value.cells] using hu1, hu2⟩
    | int k =>
      obtain ⟨z, rfl⟩ := okWide_int hu hv
      exact one rfl (by simp [isAggT, aggOf, hu])
    | bool =>
      obtain ⟨z, rfl⟩ := okWide_bool hu hv
      exact one rfl (by simp [isAggT, aggOf, hu])
    | slice e =>
      obtain ⟨a, l, c, rfl⟩ := okWide_slice hu hv
      exact one rfl (by simp [isAggT, aggOf, hu])
    | _ => cases ho
/-- Parameters that are all plain values of these types. -/
def valSig (P : Program) : List TypeId → List Par → Bool
  | [], [] => true
  | t :: ts, .val agg ty :: ps => (agg == isAggT P t) && decide (tyId P 20 t = some ty) && valSig P ts ps
  | _, _ => false
theorem prod_cons (t : Ty) (ts : List Ty) (x : t.den) (y : (prod ts).den) : ∃ z : (prod (t :: ts)).den, (InR t x → InR (prod ts) y → InR (prod (t :: ts)) z) ∧ V.proj ⟨prod (t :: ts), z⟩ (partPath (ts.length + 1) 0) = ⟨t, x⟩ ∧
    ∀ i, i < ts.length → V.proj ⟨prod (t :: ts), z⟩ (partPath (ts.length + 1) (i + 1)) = V.proj ⟨prod ts, y⟩ (partPath ts.length i) := by
  cases ts with
  | nil => exact ⟨x, fun h _ => h, rfl, fun i h => by simp at h⟩
  | cons t1 ts => exact ⟨(x, y), fun h1 h2 => ⟨h1, h2⟩, rfl, fun i _ => rfl⟩
theorem open_all {H : Type} {en : TypeId × Value → H} {P : Program} {w : World} {spare : Nat → Bool} {held : Bool} {base : Nat} : ∀ (ts : List TypeId) (pp : List Par) (vs : List Value) (ds : List (DataW H)) (ps : List MemPlace), ts.all (okT P 20) = true → valSig P ts pp = true →
    (∀ (j : Nat) t v, ts[j]? = some t → vs[j]? = some v → Value.okWide P w .any base t v) → DataW.TrodAll en P w 0 spare held ts vs ds ps →
    ds.length = ts.length ∧ vs.length = pp.length ∧ ∃ x : (prod (pp.map Par.ty)).den, InR (prod (pp.map Par.ty)) x ∧ ∀ (i : Nat) (agg : Bool) (ty : Ty), pp[i]? = some (.val agg ty) → ∃ v, vs[i]? = some v ∧ ∃ y : ty.den, V.proj ⟨prod (pp.map Par.ty), x⟩ (partPath pp.length i) = ⟨ty, y⟩ ∧ ArgRep w agg ty y v
  | [], [], [], [], ps, _, _, _, _ => ⟨rfl, rfl, (), trivial, fun i agg ty h => by simp at h⟩
  | t :: ts, .val agg ty :: pp, v :: vs, d :: ds, ps, ho, hs, hv, h => by
    obtain ⟨p, q, h1, h2, _⟩ := h
    simp only [List.all_cons, Bool.and_eq_true] at ho
    simp only [valSig, Bool.and_eq_true, beq_iff_eq, decide_eq_true_eq] at hs
    obtain ⟨⟨rfl, hty⟩, hs⟩ := hs
    obtain ⟨x, hx1, hx2⟩ := open_one ho.1 hty (hv 0 t v rfl rfl) h1
    obtain ⟨hl, hl2, y, hy1, hy2⟩ := open_all ts pp vs ds q ho.2 hs (fun j t v h3 h4 => hv (j + 1) t v (by simpa using h3) (by simpa using h4)) h2
    obtain ⟨z, z1, z2, z3⟩ := prod_cons ty (pp.map Par.ty) x y
    rw [List.length_map] at z2 z3
    refine ⟨by simp [hl], by simp [hl2], z, z1 hx1 hy1, fun i agg' ty' hi => ?_⟩
    cases i with
    | zero =>
      simp only [List.getElem?_cons_zero, Option.some.injEq, Par.val.injEq] at hi
      obtain ⟨rfl, rfl⟩ := hi
      exact ⟨v, rfl, x, z2, hx2⟩
    | succ i =>
      have hi' : pp[i]? = some (.val agg' ty') := by simpa using hi
      obtain ⟨v', q1, y', q2, q3⟩ := hy2 i agg' ty' hi'
      exact ⟨v', by simpa using q1, y', by rw [← q2]; exact z3 i (List.getElem?_eq_some_iff.1 hi').1, q3⟩
  | [], [], [], _ :: _, _, _, _, _, h => h.elim
  | [], [], _ :: _, _, _, _, _, _, h => h.elim
  | [], _ :: _, _, _, _, _, hs, _, _ => by simp [valSig] at hs
  | _ :: _, [], _, _, _, _, hs, _, _ => by simp [valSig] at hs
  | _ :: _, .val _ _ :: _, [], _, _, _, _, _, h => h.elim
  | _ :: _, .val _ _ :: _, _ :: _, [], _, _, _, _, h => h.elim
  | _ :: _, .ptr _ :: _, _, _, _, _, hs, _, _ => by simp [valSig] at hs
  | _ :: _, .own _ _ _ :: _, _, _, _, _, hs, _, _ => by simp [valSig] at hs
  | _ :: _, .iob _ _ :: _, _, _, _, _, hs, _, _ => by simp [valSig] at hs
  | _ :: _, .fn _ _ :: _, _, _, _, _, hs, _, _ => by simp [valSig] at hs
theorem valSig_get {P : Program} : ∀ (ts : List TypeId) (pp : List Par), valSig P ts pp = true → ∀ (i : Nat) (p : Par), pp[i]? = some p → ∃ agg ty, p = .val agg ty
  | [], [], _, i, p, h => by simp at h
  | t :: ts, .val agg ty :: pp, hs, i, p, h => by
    simp only [valSig, Bool.and_eq_true] at hs
    cases i with
    | zero => simp only [List.getElem?_cons_zero, Option.some.injEq] at h; exact ⟨agg, ty, h.symm⟩
    | succ i => exact valSig_get ts pp hs.2 i p (by simpa using h)
  | [], _ :: _, hs, _, _, _ => by simp [valSig] at hs
  | _ :: _, [], hs, _, _, _ => by simp [valSig] at hs
  | _ :: _, .ptr _ :: _, hs, _, _, _ => by simp [valSig] at hs
  | _ :: _, .own _ _ _ :: _, hs, _, _, _ => by simp [valSig] at hs
  | _ :: _, .iob _ _ :: _, hs, _, _, _ => by simp [valSig] at hs
  | _ :: _, .fn _ _ :: _, hs, _, _, _ => by simp [valSig] at hs
theorem pre_law {P : Program} {s : Sig} {w : World} {args : Array Value} {ts : List TypeId} {x : s.p.den} (hs : valSig P ts s.ps = true) (hl : args.size = s.ps.length)
    (h : ∀ (i : Nat) (agg : Bool) (ty : Ty), s.ps[i]? = some (.val agg ty) → ∃ v, args.toList[i]? = some v ∧ ∃ y : ty.den, V.proj ⟨s.p, x⟩ (partPath s.ps.length i) = ⟨ty, y⟩ ∧ ArgRep w agg ty y v) : Pre P s x w (allG w) args := by
  refine ⟨hl, fun i => ?_, fun l row hr => ?_, fun b hb => hb, fun b l hl => by cases hl⟩
  · have hsl : (preSt s).slot i = ((s.ps[i]?).map (parSlot s.ps.length (0 + i) (0 + nb s.ps i))).getD .junk := by
      unfold St.slot preSt
      simp only [List.getD]
      rw [initSlots_get]
    rw [hsl]
    cases hp : s.ps[i]? with
    | none => trivial
    | some p =>
      obtain ⟨agg, ty, rfl⟩ := valSig_get ts s.ps hs i p hp
      obtain ⟨v, h1, y, h2, h3⟩ := h i agg ty hp
      have hv : args.getD i undef = v := by
        rw [Array.getD_eq_getD_getElem?, ← Array.getElem?_toList, h1]; rfl
      rw [hv]
      simp only [Option.map_some, Option.getD_some, Nat.zero_add, parSlot]
      have hc := cellsOf_enc none 0 [⟨s.p, x⟩] ty (partPath s.ps.length i) y h2
      unfold ArgRep at h3
      cases agg with
      | true =>
        simp only [if_true] at h3
        simp only [slotOf, if_true, SV.enc, hc]
        exact h3
      | false =>
        simp only [Bool.false_eq_true, if_false] at h3
        obtain ⟨q, hq, hr⟩ := h3
        rw [hq] at hc
        simp only [slotOf, Bool.false_eq_true, if_false]
        cases hcs : cellsOf none 0 (partPath s.ps.length i) ty with
        | nil => rw [hcs] at hc; simp [encL] at hc
        | cons c cs =>
          rw [hcs] at hc
          simp only [encL, List.cons.injEq] at hc
          simp only [SV.enc, PRep, hc.1]
          exact hr
  · obtain ⟨j, p⟩ := l
    have hr : RK.rows [⟨s.p, x⟩] j ((preSt s).rk j) p = some row := hr
    have : (preSt s).rk j = .dead := by
      unfold St.rk preSt
      simp only [List.getD]
      cases hj : (initRoots s.ps.length 0 s.ps)[j]? with
      | none => rfl
      | some k' =>
        obtain ⟨i, p', q, hp, hq, _⟩ := initRoots_get _ _ _ _ _ hj
        obtain ⟨agg, ty, rfl⟩ := valSig_get ts s.ps hs i p' hp
        simp [parRoots] at hq
    rw [this, rows_dead] at hr; cases hr

/-- The arguments read in the later world as they read. -/
theorem below_all {H : Type} {enc : TypeId × Value → H} {P : Program} (hl : laidOutB P = true) {W W' : World} (hb : Below W.heap.size W W') : ∀ (ts : List TypeId) (vs : List Value) (ds : List (DataW H)) (ps : List MemPlace),
    ts.all (fun t => P.readableRec t && Nat.blt t P.types.size) = true → DataW.TrodAll enc P W 0 (fun _ => true) true ts vs ds ps → (∀ x ∈ ps, x.block < W.heap.size) → ∀ sp : Nat → Bool, (∀ x ∈ ps, sp x.block = true) → DataW.TrodAll enc P W' 0 sp true ts vs ds ps
  | [], [], [], ps, _, h, _, _, _ => h
  | t :: ts, v :: vs, d :: ds, ps, ho, h, hlt, sp, hsp => by
    obtain ⟨p, q, h1, h2, rfl⟩ := h
    simp only [List.all_cons, Bool.and_eq_true, Nat.blt_eq] at ho
    refine ⟨p, q, ?_, below_all hl hb ts vs ds q ho.2 h2 (fun x hx => hlt x (by simp [hx])) sp (fun x hx => hsp x (by simp [hx])), rfl⟩
    exact WideElems.Trod_stays hl ho.1.1 ho.1.2 h1 (fun x hx => hb.same (hlt x (by simp [hx]))) (fun x hx => hsp x (by simp [hx]))
  | [], _ :: _, _, _, _, h, _, _, _ => h.elim
  | [], [], _ :: _, _, _, h, _, _, _ => h.elim
  | _ :: _, [], _, _, _, h, _, _, _ => h.elim
  | _ :: _, _ :: _, [], _, _, h, _, _, _ => h.elim

section
variable {H : Type} {enc : TypeId × Value → H} {P : Program}
theorem post_of_below' {f : Func} {s : ChangeSpec} {apart fresh handsOn again : Bool} {W W' : World} {args : Array Value} {v : Value} {ds gs : List (DataW H)} {before pa pv : List MemPlace}
    (hW : DataW.Whole enc P f.params.toList s.vars apart W args.toList ds gs before)
    (hres : ∀ (b : Nat) (sp : Nat → Bool) (hd : Bool), DataW.TrodAll enc P W' b sp hd f.resultTypes.toList (v.resultList f.resultTypes.size) (s.fn H (ds ++ gs)).results [])
    (hargs : ∀ sp : Nat → Bool, (∀ p ∈ before, sp p.block = true) → DataW.TrodAll enc P W' 0 sp true f.params.toList args.toList (s.fn H (ds ++ gs)).args pa)
    (hvars : ∀ sp : Nat → Bool, (∀ p ∈ before, sp p.block = true) → DataW.TrodVars enc P W' sp s.vars (s.fn H (ds ++ gs)).vars pv)
    (hps : before = pa ++ pv) (hb : Below W.heap.size W W')
    (hok : ∀ (j : Nat) (t : TypeId) (r : Value), f.resultTypes[j]? = some t → (v.resultList f.resultTypes.size)[j]? = some r → Value.okWide P W' .any 0 t r) :
    s.post enc P f apart fresh handsOn again W args v W' := by
  have hlt : ∀ p ∈ before, p.block < W.heap.size := fun p hp => hW.lt p hp
  have hold : ∀ p ∈ before, (fun b => decide (b < W.heap.size)) p.block = true := fun p hp => by simpa using hlt p hp
  refine ⟨ds, gs, before, [], pa, pv, hW, hres _ _ _, hargs _ hold, hvars _ hold, World.keptBut_mono (fun p hp => ⟨hp, ?_⟩) (hb.frame (· ∈ before)), fun _ => ?_⟩
  · rw [hps, List.mem_append] at hp
    exact Or.inr hp
  · obtain ⟨_, _, _, _, _, hz, hn⟩ := hW
    refine ⟨hok, _, _, ([] ++ pa) ++ pv, ⟨[] ++ pa, pv, trodAll_append (hargs _ (fun _ _ => rfl)) (hres _ _ _), hvars _ (fun _ _ => rfl), rfl, ?_, ?_⟩, ?_⟩
    · intro b off hp
      have hin : MemPlace.cell b off ∈ before := by rw [hps]; simpa using hp
      rw [hb.frozen (hlt _ hin)]
      exact hz b off hin
    · intro ha
      have := hn ha
      rw [hps] at this
      simpa using this
    · intro p hp _
      rw [hps]
      simpa using hp
end


/-- A law that says true. -/
theorem law_post {H : Type} {enc : TypeId × Value → H} {P : Program} {fn : Func} {s : ChangeSpec} {tb : TypeId} {sg : Sig} {F : sg.p.den → Option sg.r.den} (hl : laidOutB P = true) (hro : fn.params.toList.all (fun t => P.readableRec t && Nat.blt t P.types.size) = true) (hok : fn.params.toList.all (okT P 20) = true)
    (hvs : valSig P fn.params.toList sg.ps = true) (hslot : (postSt sg).slots = [.c (.v (.r ⟨0, []⟩))])
    (hres : fn.resultTypes = #[tb]) (htb : P.underlying tb = some .bool) (hvar : s.vars = []) (hfn : ∀ ds : List (DataW H), ds.length = fn.params.size → s.fn H (ds ++ []) = { results := [.lit (.bool true)], args := ds })
    (hlaw : ∀ x, InR sg.p x → ∃ y, F x = some y ∧ V.c ⟨sg.r, y⟩ = .bool true) (hspec : CallSpec P sg F)
    (W : World) (base : Nat) (args : Array Value) (ds gs : List (DataW H)) (before : List MemPlace) (hval : ∀ (j : Nat) t v, fn.params[j]? = some t → args[j]? = some v → Value.okWide P W .any base t v)
    (hW : DataW.Whole enc P fn.params.toList s.vars false W args.toList ds gs before) :
    Calls P sg.f args W fun e W' => ∃ v, e = .returned v ∧ s.post enc P fn false true false false W args v W' := by
  have hW' := hW
  obtain ⟨p, q, hA, hV, rfl, hfz, hnd⟩ := hW
  rw [hvar] at hV
  obtain ⟨rfl, rfl⟩ := trodVars_none hV
  have hlt : ∀ x ∈ p ++ [], x.block < W.heap.size := fun p hp => hW'.lt p hp
  obtain ⟨hdl, hvl, x, h1, h2⟩ := open_all (P := P) fn.params.toList sg.ps args.toList ds p hok hvs (fun j t v ht hv => hval j t v (by simpa using ht) (by simpa using hv)) hA
  obtain ⟨y, hy1, hy2⟩ := hlaw x h1
  refine (hspec.run x y W (allG W) args (pre_law hvs (by simpa using hvl) h2) hy1).mono fun e W' hP => ?_
  obtain ⟨v, rfl, hpost⟩ := hP
  obtain ⟨hchg, g', _, _, hp, _⟩ := hpost
  have hL : Below W.heap.size W W' := (hchg.of (O := fun _ => False) (B := W.heap.size) fun k hk _ => ⟨hk, fun ⟨l, hl⟩ => by cases hl⟩).lat
  have hv : v = .bool true := by
    have hsl : (postSt sg).slot 0 = .c (.v (.r ⟨0, []⟩)) := by unfold St.slot; rw [hslot]; rfl
    rw [hsl] at hp
    have hp : CRep W' g' (V.c ⟨sg.r, y⟩) v := by simpa [SV.enc, SC.enc, At.get, Ref.get, List.getD, V.proj, PRep] using hp
    rw [hy2] at hp
    exact crep_bool hp
  subst hv
  have hf := hfn ds (by simpa using hdl)
  refine ⟨_, rfl, post_of_below' (pa := p) (pv := []) hW' (fun b sp hd => ?_) (fun sp hsp => ?_) (fun sp _ => ?_) rfl hL ?_⟩
  · rw [hf, hres]
    exact trodAll_cons_mk (shut_bool htb _) trodAll_mk0
  · rw [hf]
    have := below_all hl hL fn.params.toList args.toList ds p hro hA (fun x hx => hlt x (by simp [hx])) sp (fun x hx => hsp x (by simp [hx]))
    simpa using this
  · rw [hf, hvar]; rfl
  · exact ok_one hres rfl (okWide_bool_mk htb _)
end Go.Pu
