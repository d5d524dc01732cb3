/-
  Own work. The rules of the frame logic: append, slice literals, moves of an owned tree, sealing, tuples, min and max.
-/
import Derived.Test.YtphdildkhaeimaaEvG
namespace Go.Ev
open Go Go.RowKit

/-- Each cell of each element is no ghost of a value that was moved away. -/
def Solid (els : List (List T)) : Prop := ∀ c ∈ els, ∀ x ∈ c, T.solid x = true
def Imm (els : List (List T)) : Prop := ∀ c ∈ els, ∀ x ∈ c, T.imm x = true
theorem solid_map {α : Type} (f : α → List T) (h : ∀ a, (f a).all T.solid = true) (xs : List α) : Solid (xs.map f) := fun c hc x hx => by
  obtain ⟨a, _, rfl⟩ := List.mem_map.1 hc
  exact List.all_eq_true.1 (h a) x hx
theorem imm_map {α : Type} (f : α → List T) (h : ∀ a, (f a).all T.imm = true) (xs : List α) : Imm (xs.map f) := fun c hc x hx => by
  obtain ⟨a, _, rfl⟩ := List.mem_map.1 hc
  exact List.all_eq_true.1 (h a) x hx
theorem len_map {α : Type} (f : α → List T) {n : Nat} (h : ∀ a, (f a).length = n) (xs : List α) (i : Nat) (c : List T) (hc : (xs.map f)[i]? = some c) : c.length = n := by
  rw [List.getElem?_map, Option.map_eq_some_iff] at hc
  obtain ⟨a, _, rfl⟩ := hc
  exact h a

section
variable {X : Ctx} {fr : Frame}
/-- What an append's source is. -/
def Src (fr : Frame) (y : Operand) (s2 : Nat) (news : List (List T)) : Prop :=
  (∃ e, val fr y = .al s2 [] ∧ fr s2 = .t (.own false e news)) ∨ (val fr y = .t (.ro news)) ∨ (val fr y = .t .nil ∧ news = [])
/-- What it is appended to. -/
def Dst (fr : Frame) (x : Operand) (s : Nat) (e : TypeId) (els : List (List T)) : Prop :=
  (val fr x = .al s [] ∧ fr s = .t (.own false e els)) ∨ (val fr x = .t .nil ∧ els = [])

theorem src_open {a : Act} {w : World} {g : G} (hinv : InvG X fr a w g) {y : Operand} {s2 : Nat} {news : List (List T)} (h : Src fr y s2 news) {sz : Nat} (hln : ∀ (i : Nat) (c : List T), news[i]? = some c → c.length = sz) (hso : Solid news)
    (hsz : ∀ e, fr s2 = .t (.own false e news) → szOf X.P e = sz) :
    ∃ (A : Option Addr) (c : Nat) (fn : Nat → Nat → Value), a.eval y = .slice A news.length c ∧ (news ≠ [] → ∃ ad, A = some ad ∧
      (∀ i k, i < news.length → k < sz → w.cell? (ad.add (i * sz + k)) = some (fn i k)) ∧ (∀ i k, i < news.length → k < sz → (fn i k).oneCell' = true)) ∧
      (∀ (i : Nat) (c : List T) (k : Nat) (x : T), news[i]? = some c → c[k]? = some x → Rep X.P w g (s2, [(i, k)]) x (fn i k)) := by
  have fin : ∀ (b off : Nat) (fn : Nat → Nat → Value), (∀ (i : Nat) (c : List T) (k : Nat) (x : T), news[i]? = some c → c[k]? = some x → w.cell? ⟨b, off + (i * sz + k), none⟩ = some (fn i k)) →
      (∀ (i : Nat) (c : List T) (k : Nat) (x : T), news[i]? = some c → c[k]? = some x → Rep X.P w g (s2, [(i, k)]) x (fn i k)) →
      (∀ i k, i < news.length → k < sz → w.cell? ((⟨b, off, none⟩ : Addr).add (i * sz + k)) = some (fn i k)) ∧ (∀ i k, i < news.length → k < sz → (fn i k).oneCell' = true) := fun b off fn h1 h2 => by
    have get : ∀ i k, i < news.length → k < sz → ∃ c x, news[i]? = some c ∧ c[k]? = some x := fun i k hi hk => by
      have hc := List.getElem?_eq_getElem hi
      exact ⟨_, _, hc, List.getElem?_eq_getElem (by rw [hln i _ hc]; exact hk)⟩
    refine ⟨fun i k hi hk => ?_, fun i k hi hk => ?_⟩
    · obtain ⟨c, x, hc, hx⟩ := get i k hi hk
      rw [addr_add]; exact h1 i c k x hc hx
    · obtain ⟨c, x, hc, hx⟩ := get i k hi hk
      exact rep_one (h2 i c k x hc hx) (hso c (List.mem_of_getElem? hc) x (List.mem_of_getElem? hx))
  rcases h with ⟨e, h1, h2⟩ | h1 | ⟨h1, rfl⟩
  · have hp := inv_val hinv 0 y
    rw [h1] at hp
    have hp : a.eval y = g.hdr (s2, []) := hp
    by_cases hne : news = []
    · subst hne
      have hs := hinv.slot s2
      rw [h2] at hs
      generalize a.tmps.getD s2 undef = v at hs
      cases hs with
      | im _ _ _ h => cases h
      | own0 _ _ _ hd hv =>
        rcases hv with rfl | ⟨a', rfl⟩
        · exact ⟨none, 0, fun _ _ => undef, hp.trans hd, fun h => absurd rfl h, fun i c k x hc => by simp at hc⟩
        · exact ⟨some a', 0, fun _ _ => undef, hp.trans hd, fun h => absurd rfl h, fun i c k x hc => by simp at hc⟩
      | own _ _ _ _ b base n' cap cs f _ hv' hd ho hh hn =>
        subst hn
        rw [hv'] at hd
        simp only [Bool.false_eq_true, if_false] at hd
        exact ⟨_, cap, fun _ _ => undef, hp.trans hd, fun h => absurd rfl h, fun i c k x hc => by simp at hc⟩
    · obtain ⟨b, base, n', cap, cs, f, q1, _, _, q4, q5, _, _, _, _, _, q11, q12⟩ := own_row hinv h2 hne
      simp only [Bool.false_eq_true, if_false] at q1
      subst q5
      rw [hsz e h2] at q11
      exact ⟨_, cap, f, hp.trans q1, fun _ => ⟨_, rfl, fin b base f (fun i c k x hc hx => by rw [cell_of_row w b _ cs e (0, 0) q4]; exact q11 i c k x hc hx) q12⟩, q12⟩
  · have hp := inv_val hinv 0 y
    rw [h1] at hp
    generalize a.eval y = v at hp
    cases Rep.im' hp rfl with
    | ro0 A cap => exact ⟨A, cap, fun _ _ => undef, rfl, fun h => absurd rfl h, fun i c k x hc => by simp at hc⟩
    | ro _ b off n cap s f hn hc hm hS hs hsz' hcell hrep =>
      subst hn
      have hr : ∀ (i : Nat) (c : List T) (k : Nat) (x : T), news[i]? = some c → c[k]? = some x → Rep X.P w g (s2, [(i, k)]) x (f i k) := fun i c k x q1 q2 => .im _ _ _ (hrep i c k x q1 q2)
      refine ⟨_, cap, f, rfl, fun hne => ⟨_, rfl, fin b off f (fun i c k x q1 q2 => ?_) hr⟩, hr⟩
      have e1 : s = sz := (hsz' i c q1).symm.trans (hln i c q1)
      rw [← e1]
      exact hcell i c k x q1 q2
  · have hp := inv_val hinv 0 y
    rw [h1] at hp
    generalize a.eval y = v at hp
    cases Rep.im' hp rfl with
    | nil => exact ⟨none, 0, fun _ _ => undef, rfl, fun h => absurd rfl h, fun i c k x hc => by simp at hc⟩
end

section
variable {X : Ctx} {ops : Array Oper} {rest : List (Oper × Bool)} {fr : Frame} {K : Frame → Prop} {nr : Bool}
variable {d : Nat} {x y : Operand} {t t' ty : TypeId} {ps : String} {af : Array Edge} {gd : Option (Nat × Bool)}

theorem beq_false_ne {s s2 : Nat} (h : Nat.beq s s2 = false) : s ≠ s2 := fun e => by rw [e, beq_self] at h; cases h

theorem EvO.append {s s2 : Nat} {e : TypeId} {els news : List (List T)} {zs : List T} (hx : Dst fr x s e els) (hy : Src fr y s2 news) (hne0 : Nat.beq s s2 = false) (he : elemOf' X.P t = some e) (hz : zeroT X.P e = some zs) (hs : szOf X.P e = zs.length) (hpos0 : zs.isEmpty = false)
    (hln : ∀ (i : Nat) (c : List T), news[i]? = some c → c.length = zs.length) (hso : Solid news) (hsz : ∀ e', fr s2 = .t (.own false e' news) → szOf X.P e' = zs.length)
    (h63 : els.length + news.length ≤ maxLen) (hby : (els.length + news.length) * bytesOf X.P e ≤ 140737488355328) (hN : Nat.blt d X.N = true) (hw : wantF ops fr gd = some true) (hnr : nr = false)
    (h : EvO X ops rest (place (upd (upd fr s .junk) s2 .junk) d (.t (.own false e (els ++ news)))) K) : EvO X ops ((⟨some d, .call { callee := .builtin .append, args := #[x, y], argTypes := #[t, t] }, ty, ps, af, gd⟩, nr) :: rest) fr K :=
  EvO.w0 rfl hw hnr (fun a w g hinv => by
    have hne := beq_false_ne hne0
    have hzne : zs ≠ [] := by intro e0; rw [e0] at hpos0; cases hpos0
    have hpos : 0 < zs.length := List.length_pos_iff.2 hzne
    obtain ⟨i, z, hinfo, hzero, hzsz, _⟩ := zeroT_spec hz
    have hisz : i.size = zs.length := by rw [← hs]; simp [szOf, hinfo]
    have hib : i.bytes = bytesOf X.P e := by simp [bytesOf, hinfo]
    have hu := elem_under he
    obtain ⟨A, c, fn, hyv, hyc, hyr⟩ := src_open hinv hy hln hso hsz
    -- the destination
    have hdst : ∃ (v : Value) (fo : Nat → Nat → Value) (bOld : Option Nat), a.eval x = v ∧ (∀ b, bOld = some b → g.own b = some (s, [])) ∧
        ((els.length = 0 ∧ (v = .slice none 0 0 ∨ ∃ a, v = .slice (some a) 0 0)) ∨ ∃ b base cap cs, v = .slice (some ⟨b, base, none⟩) els.length cap ∧ bOld = some b ∧ w.heap[b]? = some (.cells cs e (0, 0)) ∧ els.length ≤ cap ∧ cap ≤ maxLen ∧ base + cap * szOf X.P e = cs.size ∧
          (∀ i k, i < els.length → k < szOf X.P e → cs[base + (i * szOf X.P e + k)]? = some (fo i k))) ∧
        (∀ (i : Nat) (c : List T), els[i]? = some c → c.length = szOf X.P e) ∧ (∀ (i : Nat) (c : List T) (k : Nat) (x : T), els[i]? = some c → c[k]? = some x → Rep X.P w g (s, [(i, k)]) x (fo i k)) ∧ (v = g.hdr (s, []) ∨ els = []) := by
      rcases hx with ⟨h1, h2⟩ | ⟨h1, rfl⟩
      · have hp := inv_val hinv 0 x
        rw [h1] at hp
        have hp : a.eval x = g.hdr (s, []) := hp
        have hsl := hinv.slot s
        rw [h2] at hsl
        generalize a.tmps.getD s undef = v at hsl
        cases hsl with
        | im _ _ _ h => cases h
        | own0 _ _ _ hd hv =>
          exact ⟨v, fun _ _ => undef, none, hp.trans hd, fun b h => by (cases h), .inl ⟨rfl, hv⟩, fun i c hc => by simp at hc, fun i c k x hc => by simp at hc, .inl hd.symm⟩
        | own _ _ _ _ b base n' cap cs f _ hv' hd ho hh hn hc hm hcs hs0 hsz0 hcell hrep =>
          subst hn
          simp only [Bool.false_eq_true, if_false] at hv'
          refine ⟨v, f, some b, hp.trans hd, fun b' h => (by cases h; exact ho), .inr ⟨b, base, cap, cs, hv', rfl, hh, hc, hm, hcs, fun i k hi hk => ?_⟩, hsz0, hrep, .inl hd.symm⟩
          have hci := List.getElem?_eq_getElem hi
          exact hcell i _ k _ hci (List.getElem?_eq_getElem (by rw [hsz0 i _ hci]; exact hk))
      · have hp := inv_val hinv 0 x
        rw [h1] at hp
        generalize a.eval x = v at hp
        cases Rep.im' hp rfl with
        | nil => exact ⟨.slice none 0 0, fun _ _ => undef, none, rfl, fun b h => by (cases h), .inl ⟨rfl, .inl rfl⟩, fun i c hc => by simp at hc, fun i c k x hc => by simp at hc, .inr rfl⟩
    obtain ⟨v, fo, bOld, hxv, hbo, hv, hlo, hro, hvh⟩ := hdst
    have hexec : ∀ (v' : Value) (w' : World), (Builtin.append_ #[t, t] ty #[v, .slice A news.length c]).run X.P w = .ok v' w' →
        (execOp a.eval ⟨some d, .call { callee := .builtin .append, args := #[x, y], argTypes := #[t, t] }, ty, ps, af, gd⟩).run X.P w = .ok (.value v') w' := fun v' w' hr => by
      simp only [execOp, resolve, invoke, builtin, Sem.run_bind, Sem.run_pure, Result.andThen_ok, List.map_toArray, List.map_cons, List.map_nil, hxv, hyv, hr]
    by_cases hm0 : news = []
    · subst hm0
      have hres : ∃ (v' : Value), v' = v ∧ (Builtin.append_ #[t, t] ty #[v, .slice A 0 c]).run X.P w = .ok v' w := by
        refine ⟨v, rfl, ?_⟩
        rcases hv with ⟨h0, rfl | ⟨a', rfl⟩⟩ | ⟨b, base, cap, cs, rfl, _, _, hnc, _⟩
        · exact run_append_zero hu hinfo _ 0 0 (Nat.le_refl _) _ _
        · exact run_append_zero hu hinfo _ 0 0 (Nat.le_refl _) _ _
        · exact run_append_zero hu hinfo _ _ cap hnc _ _
      obtain ⟨v', rfl, hr⟩ := hres
      have hr' := hexec v' w hr
      unfold Oper.wp
      rw [hr']
      -- the old tree, moved to the slot
      rcases hv with ⟨h0, hv⟩ | ⟨b, base, cap, cs, rfl, rfl, hh, hnc, hcm, hcs, hold⟩
      · have hels : els = [] := List.eq_nil_of_length_eq_zero h0
        subst hels
        have hinv1 : InvG X (upd (upd fr s .junk) s2 .junk) a w g := ⟨hinv.size, hinv.nodef, hinv.ok, fun s' => by
          by_cases q2 : s' = s2
          · subst q2; rw [upd_same]; trivial
          · rw [upd_ne _ _ _ _ q2]
            by_cases q1 : s' = s
            · subst q1; rw [upd_same]; trivial
            · rw [upd_ne _ _ _ _ q1]; exact hinv.slot s'⟩
        let g' : G := ⟨g.S, g.own, fun l => if l = (d, []) then v' else g.hdr l⟩
        refine ⟨g', inv_place hinv1 hN (Lat.refl w) ⟨hinv.ok.bel, hinv.ok.base, hinv.ok.S, hinv.ok.own⟩ (fun _ h => h) (fun _ _ _ _ h => h) (fun s' q hs' => ?_) (.own0 _ _ _ (by simp [g']) hv)⟩
        simp only [g']
        rw [if_neg (by intro e0; cases e0; exact hs' rfl)]
      · have hA : AppRes X.P w w e (some b) els.length ([] : List (List T)).length fo fn (.slice (some ⟨b, base, none⟩) els.length cap) :=
          ⟨⟨b, base, cap, cs, rfl, hnc, hcm, hcs, hh, hold, fun i k hi => absurd hi (Nat.not_lt_zero _), .inl rfl, fun _ _ _ => rfl⟩, rfl, rfl, rfl, Nat.le_refl _⟩
        exact inv_app hinv hne hN hbo hA (by rw [hs]; exact hpos) hlo (fun i c hc => by simp at hc) hro (fun i c k x hc => by simp at hc)
    · obtain ⟨ad, rfl, hcell, hone⟩ := hyc hm0
      rw [← hs] at hcell hone
      obtain ⟨v', w', hr, hA⟩ := run_append_own' (P := X.P) (w := w) (ty := ty) hu hinfo hzero (by rw [hzsz, hisz]) (by rw [hisz]; exact hpos) v els.length news.length fo fn bOld hv ad c (List.length_pos_iff.2 hm0) hcell hone h63 (by rw [hib]; exact hby)
      have hr' := hexec v' w' hr
      unfold Oper.wp
      rw [hr']
      exact inv_app hinv hne hN hbo hA (by rw [hs]; exact hpos) hlo (fun i c hc => by rw [hs]; exact hln i c hc) hro hyr) h
end
end Go.Ev
