/-
  Own work. The rules of the frame logic: append, slice literals, moves of an owned tree, sealing.
-/
import Derived.Test.YtphdildkhaeimaaEvF
namespace Go.Ev
open Go Go.RowKit

def T.solid : T → Bool
  | .gone => false
  | _ => true
theorem rep_one {P : Program} {w : World} {g : G} {l : Loc} {x : T} {v : Value} (h : Rep P w g l x v) (hx : x.solid = true) : v.oneCell' = true := by
  cases h with
  | im _ _ _ h => exact irep_one h (by rintro rfl; cases hx)
  | own0 _ _ _ _ h => rcases h with rfl | ⟨a, rfl⟩ <;> rfl
  | own _ bx _ _ _ _ _ _ _ _ _ hv => subst hv; cases bx <;> rfl

/-- What an append leaves. -/
structure AppRes (P : Program) (w w' : World) (e : TypeId) (bOld : Option Nat) (n m : Nat) (fo fn : Nat → Nat → Value) (v' : Value) : Prop where
  ex : ∃ (b base cap : Nat) (cs : Array Value), v' = .slice (some ⟨b, base, none⟩) (n + m) cap ∧ n + m ≤ cap ∧ cap ≤ maxLen ∧ base + cap * szOf P e = cs.size ∧ w'.heap[b]? = some (.cells cs e (0, 0)) ∧
    (∀ i k, i < n → k < szOf P e → cs[base + (i * szOf P e + k)]? = some (fo i k)) ∧ (∀ i k, i < m → k < szOf P e → cs[base + ((n + i) * szOf P e + k)]? = some (fn i k)) ∧
    (some b = bOld ∨ (w.heap.size ≤ b)) ∧ (∀ k, k < w.heap.size → k ≠ b → w'.heap[k]? = w.heap[k]?)
  os : w'.os = w.os
  tape : w'.tape = w.tape
  output : w'.output = w.output
  size : w.heap.size ≤ w'.heap.size

theorem flat_get (f : Nat → Nat → Value) (m s j : Nat) (hj : j < m * s) : ((List.range (m * s)).map fun j => f (j / s) (j % s))[j]? = some (f (j / s) (j % s)) := by
  simp [hj]
theorem flat_get' (f : Nat → Nat → Value) (m s i k : Nat) (hi : i < m) (hk : k < s) : ((List.range (m * s)).map fun j => f (j / s) (j % s))[i * s + k]? = some (f i k) := by
  have hlt : i * s + k < m * s := by
    have : (i + 1) * s ≤ m * s := Nat.mul_le_mul_right s hi
    rw [Nat.add_mul, Nat.one_mul] at this
    omega
  rw [flat_get f m s _ hlt]
  have h1 : (i * s + k) / s = i := by rw [Nat.mul_comm, Nat.mul_add_div (by omega), Nat.div_eq_of_lt hk]; rfl
  have h2 : (i * s + k) % s = k := by rw [Nat.mul_comm, Nat.mul_add_mod, Nat.mod_eq_of_lt hk]
  rw [h1, h2]
theorem flat_inv (f : Nat → Nat → Value) (m s j : Nat) (v : Value) (h : ((List.range (m * s)).map fun j => f (j / s) (j % s))[j]? = some v) : j < m * s ∧ v = f (j / s) (j % s) := by
  have hj := (List.getElem?_eq_some_iff.1 h).1
  simp at hj
  rw [flat_get f m s j hj] at h
  exact ⟨hj, (Option.some.inj h).symm⟩

section
variable {P : Program} {w : World} {t ty e : TypeId}
theorem run_append_zero {i : TypeInfo} (ht : P.underlying t = some (.slice e)) (hi : P.info? e = some i) (A : Option Addr) (n cap : Nat) (hnc : n ≤ cap) (B : Option Addr) (c : Nat) :
    (Builtin.append_ #[t, t] ty #[.slice A n cap, .slice B 0 c]).run P w = .ok (.slice A n cap) w := by
  cases B <;> cases A <;> simp [Builtin.append_, run_underlying ht, sizeOf, typeInfo, hi, Builtin.lenOf, Builtin.firstCells, hnc, storeCells, loadCells, loadCellsFrom]

theorem run_append_room' {i : TypeInfo} (ht : P.underlying t = some (.slice e)) (hi : P.info? e = some i)
    (g base sLen sCap : Nat) (cur : Array Value) (hg : w.heap[g]? = some (.cells cur e (0, 0)))
    (a : Addr) (m c : Nat) (news : List Value) (hl : news.length = m * i.size) (hnews : ∀ (j : Nat) (u : Value), news[j]? = some u → w.cell? (a.add j) = some u) (h1 : ∀ u ∈ news, u.oneCell' = true)
    (hroom : sLen + m ≤ sCap) (hfit : base + sLen * i.size + news.length ≤ cur.size) :
    (Builtin.append_ #[t, t] ty #[.slice (some ⟨g, base, none⟩) sLen sCap, .slice (some a) m c]).run P w =
      .ok (.slice (some ⟨g, base, none⟩) (sLen + m) sCap) (w.setRow g (cur.toList.take (base + sLen * i.size) ++ news ++ cur.toList.drop (base + sLen * i.size + news.length)).toArray) := by
  have hf := run_firstCells_some (P := P) w i.size m a m c news hl hnews
  have hst := run_storeCells_at P g (base + sLen * i.size) e news 0 cur w hg (by simpa using hfit) h1
  simp only [Nat.add_zero] at hst
  simp [Builtin.append_, run_underlying ht, sizeOf, typeInfo, hi, Builtin.lenOf, hroom, hf, addr_add, hst]

theorem size_zeroCells' (z : Array Value) (n : Nat) : (Builtin.zeroCells z n).size = n * z.size := by simp [Builtin.zeroCells]

/-- append onto a row of one's own, m elements more (m not 0). -/
theorem run_append_own' {i : TypeInfo} {z : Value} (ht : P.underlying t = some (.slice e)) (hi : P.info? e = some i) (hz : i.zero = some z) (hzs : z.cells.size = i.size) (hpos : 0 < i.size)
    (v : Value) (n m : Nat) (fo fn : Nat → Nat → Value) (bOld : Option Nat)
    (hv : (n = 0 ∧ (v = .slice none 0 0 ∨ ∃ a, v = .slice (some a) 0 0)) ∨ ∃ b base cap cs, v = .slice (some ⟨b, base, none⟩) n cap ∧ bOld = some b ∧ w.heap[b]? = some (.cells cs e (0, 0)) ∧ n ≤ cap ∧ cap ≤ maxLen ∧ base + cap * szOf P e = cs.size ∧
      (∀ i k, i < n → k < szOf P e → cs[base + (i * szOf P e + k)]? = some (fo i k)))
    (a : Addr) (c : Nat) (hm : 0 < m) (hcell : ∀ i k, i < m → k < szOf P e → w.cell? (a.add (i * szOf P e + k)) = some (fn i k)) (h1 : ∀ i k, i < m → k < szOf P e → (fn i k).oneCell' = true)
    (h63 : n + m ≤ maxLen) (hby : (n + m) * i.bytes ≤ 140737488355328) :
    ∃ v' w', (Builtin.append_ #[t, t] ty #[v, .slice (some a) m c]).run P w = .ok v' w' ∧ AppRes P w w' e bOld n m fo fn v' := by
  have hsz : szOf P e = i.size := by simp [szOf, hi]
  rw [hsz] at hcell h1
  let news := (List.range (m * i.size)).map fun j => fn (j / i.size) (j % i.size)
  have hnl : news.length = m * i.size := by simp [news]
  have hdm : ∀ j, j < m * i.size → j / i.size < m ∧ j % i.size < i.size := fun j hj => ⟨Nat.div_lt_of_lt_mul (by rw [Nat.mul_comm]; exact hj), Nat.mod_lt _ hpos⟩
  have hnews : ∀ (j : Nat) (u : Value), news[j]? = some u → w.cell? (a.add j) = some u := fun j u hu => by
    obtain ⟨hj, rfl⟩ := flat_inv fn m i.size j u hu
    obtain ⟨q1, q2⟩ := hdm j hj
    have := hcell _ _ q1 q2
    rwa [Nat.div_add_mod'] at this
  have hn1 : ∀ u ∈ news, u.oneCell' = true := fun u hu => by
    obtain ⟨j, hj0⟩ := List.getElem?_of_mem hu
    obtain ⟨hj, rfl⟩ := flat_inv fn m i.size j u hj0
    obtain ⟨q1, q2⟩ := hdm j hj
    exact h1 _ _ q1 q2
  have hsmall : n + m ≤ 9223372036854775807 := by simp only [maxLen] at h63; omega
  have grown : ∀ (old : Nat) (olds : List Value), olds.length = n * i.size → (∀ i0 k, i0 < n → k < i.size → olds[i0 * i.size + k]? = some (fo i0 k)) →
      AppRes P w (w.drew.alloc (.cells (olds.toArray ++ news.toArray ++ Builtin.zeroCells z.cells (grownCap w (n + m) old e - (n + m))) e)) e bOld n m fo fn (.slice (some ⟨w.heap.size, 0, none⟩) (n + m) (grownCap w (n + m) old e)) := by
    intro old olds hol hog
    have hge := grownCap_ge w (n + m) old e
    have hcm : grownCap w (n + m) old e ≤ maxLen := grownCap_le_maxLen w (n + m) old e h63
    refine ⟨⟨w.heap.size, 0, _, _, rfl, hge, hcm, ?_, heap_alloc_new w.drew _, ?_, ?_, .inr (Nat.le_refl _), fun k hk _ => Below.heap_alloc w.drew _ k hk⟩, rfl, rfl, rfl, by simp⟩
    · simp only [Array.size_append, List.size_toArray, size_zeroCells', hzs, hol, hnl, hsz, ← Nat.add_mul, Nat.zero_add]
      congr 1
      omega
    · intro i0 k hi0 hk
      rw [hsz] at hk ⊢
      have hlt : i0 * i.size + k < n * i.size := by
        have : (i0 + 1) * i.size ≤ n * i.size := Nat.mul_le_mul_right _ hi0
        rw [Nat.add_mul, Nat.one_mul] at this
        omega
      rw [Array.append_assoc, Nat.zero_add, Array.getElem?_append_left (by simpa [hol] using hlt)]
      simpa using hog i0 k hi0 hk
    · intro i0 k hi0 hk
      rw [hsz] at hk ⊢
      have hlt : i0 * i.size + k < m * i.size := by
        have : (i0 + 1) * i.size ≤ m * i.size := Nat.mul_le_mul_right _ hi0
        rw [Nat.add_mul, Nat.one_mul] at this
        omega
      rw [Nat.add_mul, Nat.zero_add, Array.getElem?_append_left (by simp [hol, hnl]; omega), Array.getElem?_append_right (by simp [hol]; omega)]
      have e1 : n * i.size + i0 * i.size + k - olds.toArray.size = i0 * i.size + k := by simp [hol]; omega
      rw [e1, List.getElem?_toArray]
      exact flat_get' fn m i.size i0 k hi0 hk
  rcases hv with ⟨rfl, hv⟩ | ⟨b, base, cap, cs, rfl, rfl, hh, hnc, hcm, hcs, hold⟩
  · have hg0 := grown 0 [] (by simp) (fun i0 k h => absurd h (Nat.not_lt_zero _))
    rcases hv with rfl | ⟨a', rfl⟩
    · have hr := run_append_nil (P := P) w t ty e i z ht hi hz a m c news hnl hnews hm (by omega) (by have hb := hby; simp only [Nat.zero_add] at hb; omega)
      simp only [Nat.zero_add] at hg0
      refine ⟨_, _, hr, ?_⟩
      simpa using hg0
    · have hr := run_append_grow (P := P) w t ty e i z ht hi hz a' 0 0 [] (by simp) (fun j v h => by simp at h) a m c news hnl hnews (by omega) (by omega) (growslice_fits (by omega) hby)
      exact ⟨_, _, hr, hg0⟩
  · by_cases hroom : n + m ≤ cap
    · rw [hsz] at hcs
      have hfit : base + n * i.size + news.length ≤ cs.size := by
        have : (n + m) * i.size ≤ cap * i.size := Nat.mul_le_mul_right _ hroom
        rw [Nat.add_mul] at this
        omega
      have hfit' : base + n * i.size + news.length ≤ cs.toList.length := by simpa using hfit
      have hr := run_append_room' (P := P) (w := w) (ty := ty) ht hi b base n cap cs hh a m c news hnl hnews hn1 hroom hfit
      refine ⟨_, _, hr, ⟨⟨b, base, cap, _, rfl, hroom, hcm, ?_, setRow_heap w b cs _ e _ hh, ?_, ?_, .inl rfl, fun k _ hk => setRow_other w b k _ hk⟩, rfl, rfl, rfl, by rw [setRow_size]; exact Nat.le_refl _⟩⟩
      · rw [hsz]
        simp only [List.size_toArray, List.length_append, List.length_take, List.length_drop, Array.length_toList]
        omega
      · intro i0 k hi0 hk
        have hlt : i0 * szOf P e + k < n * i.size := by
          rw [hsz] at hk ⊢
          have : (i0 + 1) * i.size ≤ n * i.size := Nat.mul_le_mul_right _ hi0
          rw [Nat.add_mul, Nat.one_mul] at this
          omega
        rw [List.getElem?_toArray, vsplice_get _ _ _ hfit', if_neg (by omega), Array.getElem?_toList]
        exact hold i0 k hi0 hk
      · intro i0 k hi0 hk
        rw [hsz] at hk ⊢
        have hlt : i0 * i.size + k < m * i.size := by
          have : (i0 + 1) * i.size ≤ m * i.size := Nat.mul_le_mul_right _ hi0
          rw [Nat.add_mul, Nat.one_mul] at this
          omega
        rw [Nat.add_mul, List.getElem?_toArray, vsplice_get _ _ _ hfit', if_pos (by omega)]
        have e1 : base + (n * i.size + i0 * i.size + k) - (base + n * i.size) = i0 * i.size + k := by omega
        rw [e1]
        exact flat_get' fn m i.size i0 k hi0 hk
    · let olds := (List.range (n * i.size)).map fun j => fo (j / i.size) (j % i.size)
      have hol : olds.length = n * i.size := by simp [olds]
      have holds : ∀ (j : Nat) (u : Value), olds[j]? = some u → w.cell? ((⟨b, base, none⟩ : Addr).add j) = some u := fun j u hu => by
        obtain ⟨hj, rfl⟩ := flat_inv fo n i.size j u hu
        have q1 : j / i.size < n := Nat.div_lt_of_lt_mul (by rw [Nat.mul_comm]; exact hj)
        have := hold _ (j % i.size) q1 (by rw [hsz]; exact Nat.mod_lt _ hpos)
        rw [hsz, Nat.div_add_mod'] at this
        rw [addr_add, cell_of_row w b _ cs e (0, 0) hh]; exact this
      have hr := run_append_grow (P := P) w t ty e i z ht hi hz ⟨b, base, none⟩ n cap olds hol holds a m c news hnl hnews (by omega) (by omega) (growslice_fits (by omega) hby)
      exact ⟨_, _, hr, grown cap olds hol (fun i0 k hi0 hk => flat_get' fo n i.size i0 k hi0 hk)⟩
end

def appOwn (s s2 d n : Nat) : Option Loc → Option Loc
  | some (s1, (i, k) :: q) => if s1 = s then some (d, (i, k) :: q) else if s1 = s2 then some (d, (n + i, k) :: q) else some (s1, (i, k) :: q)
  | some (s1, []) => if s1 = s ∨ s1 = s2 then none else some (s1, [])
  | none => none
def appHdr (g : G) (s s2 d n : Nat) (v : Value) (l : Loc) : Value :=
  if l.1 = d then (match l.2 with
    | [] => v
    | (i, k) :: q => if i < n then g.hdr (s, (i, k) :: q) else g.hdr (s2, (i - n, k) :: q)) else g.hdr l

section
variable {X : Ctx} {fr : Frame}
theorem inv_app {a : Act} {w w' : World} {g : G} (hinv : InvG X fr a w g) {s s2 d : Nat} (hne : s ≠ s2) (hN : Nat.blt d X.N = true) {bOld : Option Nat} (hbo : ∀ b, bOld = some b → g.own b = some (s, [])) {e : TypeId} {els news : List (List T)} {fo fn : Nat → Nat → Value} {v' : Value}
    (hA : AppRes X.P w w' e bOld els.length news.length fo fn v') (hpos : 0 < szOf X.P e) (hlo : ∀ (i : Nat) (c : List T), els[i]? = some c → c.length = szOf X.P e) (hln : ∀ (i : Nat) (c : List T), news[i]? = some c → c.length = szOf X.P e)
    (hro : ∀ (i : Nat) (c : List T) (k : Nat) (x : T), els[i]? = some c → c[k]? = some x → Rep X.P w g (s, [(i, k)]) x (fo i k)) (hrn : ∀ (i : Nat) (c : List T) (k : Nat) (x : T), news[i]? = some c → c[k]? = some x → Rep X.P w g (s2, [(i, k)]) x (fn i k)) :
    Inv X (place (upd (upd fr s .junk) s2 .junk) d (.t (.own false e (els ++ news)))) (a.put (some d) v') w' := by
  obtain ⟨⟨b, base, cap, cs, rfl, hcap, hm, hcs, hh, hco, hcn, hb, hkeep⟩, hos, htape, hout, hsize⟩ := hA
  have hok := hinv.ok
  have hbB : X.B0 ≤ b := by
    rcases hb with hb | hb
    · exact (hok.own b _ (hbo b hb.symm)).1
    · exact Nat.le_trans hok.base hb
  have hblt : b < w'.heap.size := (Array.getElem?_eq_some_iff.1 hh).1
  have hbS : ¬ g.S b := by
    rcases hb with hb | hb
    · exact (hok.own b _ (hbo b hb.symm)).2.2
    · intro h; have := (hok.S b h).1; omega
  have hbo' : ∀ s' q, g.own b = some (s', q) → s' = s ∧ q = [] := fun s' q h => by
    rcases hb with hb | hb
    · have := hbo b hb.symm
      rw [h] at this; cases this; exact ⟨rfl, rfl⟩
    · have := (hok.own b _ h).2.1; omega
  let g' : G := ⟨g.S, fun b0 => if b0 = b then some (d, []) else appOwn s s2 d els.length (g.own b0), appHdr g s s2 d els.length (.slice (some ⟨b, base, none⟩) (els.length + news.length) cap)⟩
  have hSk : ∀ b0, g.S b0 → g.S b0 ∧ w'.heap[b0]? = w.heap[b0]? := fun b0 h0 => ⟨h0, hkeep b0 (hok.S b0 h0).1 (fun e0 => hbS (e0 ▸ h0))⟩
  have hownB : ∀ b0 l, g'.own b0 = some l → X.B0 ≤ b0 ∧ b0 < w'.heap.size ∧ ¬ g.S b0 := fun b0 l hl => by
    simp only [g'] at hl
    split at hl
    · rename_i e0; subst e0; exact ⟨hbB, hblt, hbS⟩
    · cases hg : g.own b0 with
      | none => rw [hg] at hl; cases hl
      | some l0 =>
        obtain ⟨q1, q2, q3⟩ := hok.own b0 l0 hg
        exact ⟨q1, Nat.lt_of_lt_of_le q2 hsize, q3⟩
  have hd : d < a.tmps.size := by rw [hinv.size]; simpa using hN
  refine ⟨g', ⟨by simpa [Act.put] using hinv.size, hinv.nodef, ⟨?_, Nat.le_trans hok.base hsize, fun b0 h0 => ⟨Nat.lt_of_lt_of_le (hok.S b0 h0).1 hsize, (hok.S b0 h0).2⟩, hownB⟩, fun s' => ?_⟩⟩
  · exact hok.bel.trans ⟨hos, htape, hout, hsize, fun k hk => hkeep k (Nat.lt_of_lt_of_le hk hok.base) (by omega)⟩
  · by_cases hs : s' = d
    · subst hs
      rw [place_same]
      simp only [Act.put]
      rw [getD_set_eq _ _ _ hd]
      show Rep X.P w' g' (s', []) _ _
      have happ : ∀ (i : Nat) (c : List T), (els ++ news)[i]? = some c → (i < els.length ∧ els[i]? = some c) ∨ (els.length ≤ i ∧ news[i - els.length]? = some c) := fun i c hc => by
        rcases Nat.lt_or_ge i els.length with h | h
        · rw [List.getElem?_append_left h] at hc; exact .inl ⟨h, hc⟩
        · rw [List.getElem?_append_right h] at hc; exact .inr ⟨h, hc⟩
      refine .own (s', []) false e _ b base (els.length + news.length) cap cs (fun i k => if i < els.length then fo i k else fn (i - els.length) k) _ rfl (by simp [g', appHdr]) (by simp [g']) hh (by simp) hcap hm hcs hpos ?_ ?_ ?_
      · intro i c hc
        rcases happ i c hc with ⟨_, h⟩ | ⟨_, h⟩
        · exact hlo i c h
        · exact hln _ c h
      · intro i c k x hc hx
        have hk := (List.getElem?_eq_some_iff.1 hx).1
        rcases happ i c hc with ⟨hi, h⟩ | ⟨hi, h⟩
        · rw [if_pos hi]
          exact hco i k hi (by rw [← hlo i c h]; exact hk)
        · rw [if_neg (by omega)]
          have := hcn (i - els.length) k (List.getElem?_eq_some_iff.1 h).1 (by rw [← hln _ c h]; exact hk)
          rwa [Nat.add_sub_cancel' hi] at this
      · intro i c k x hc hx
        rcases happ i c hc with ⟨hi, h⟩ | ⟨hi, h⟩
        · rw [if_pos hi]
          refine (hro i c k x h hx).move _ hSk (fun b0 q hq => ⟨?_, hkeep b0 (hok.own b0 _ hq).2.1 (fun e0 => by subst e0; have := (hbo' _ _ hq).2; simp at this)⟩) (fun q => ?_)
          · simp only [g', List.singleton_append, List.nil_append] at hq ⊢
            rw [if_neg (fun e0 => by subst e0; have := (hbo' _ _ hq).2; simp at this), hq]
            simp [appOwn]
          · simp only [g', appHdr, List.nil_append, List.singleton_append, if_true]
            rw [if_pos hi]
        · rw [if_neg (by omega)]
          refine (hrn _ c k x h hx).move _ hSk (fun b0 q hq => ⟨?_, hkeep b0 (hok.own b0 _ hq).2.1 (fun e0 => by subst e0; exact hne (hbo' _ _ hq).1.symm)⟩) (fun q => ?_)
          · simp only [g', List.singleton_append, List.nil_append] at hq ⊢
            rw [if_neg (fun e0 => by subst e0; exact hne (hbo' _ _ hq).1.symm), hq]
            simp only [appOwn]
            rw [if_neg (Ne.symm hne), if_pos trivial, Nat.add_sub_cancel' hi]
          · simp only [g', appHdr, List.nil_append, List.singleton_append, if_true]
            rw [if_neg (by omega)]
    · rw [place_ne _ _ _ _ hs]
      simp only [Act.put]
      rw [getD_set_ne' _ _ _ _ (Ne.symm hs)]
      by_cases h2 : s' = s2
      · subst h2; rw [upd_same]; trivial
      · rw [upd_ne _ _ _ _ h2]
        by_cases h1 : s' = s
        · subst h1; rw [upd_same]; trivial
        · rw [upd_ne _ _ _ _ h1]
          have hsl := hinv.slot s'
          have hho : ∀ b0 q, g.own b0 = some (s', q) → g'.own b0 = some (s', q) ∧ w'.heap[b0]? = w.heap[b0]? := fun b0 q hq => by
            have hb0 : b0 ≠ b := fun e0 => by subst e0; exact h1 (hbo' _ _ hq).1
            refine ⟨?_, hkeep b0 (hok.own b0 _ hq).2.1 hb0⟩
            simp only [g']
            rw [if_neg hb0, hq]
            cases q with
            | nil => simp [appOwn, h1, h2]
            | cons x q => obtain ⟨i, k⟩ := x; simp [appOwn, h1, h2]
          have keep : ∀ p' : PV, PRep X.P w g s' p' (a.tmps.getD s' undef) → (∀ s'' q', (p' = .al s'' q' ∨ ∃ e i k, p' = .addr e s'' q' i k) → s'' ≠ d) → PRep X.P w' g' s' p' (a.tmps.getD s' undef) := fun p' hp' hnd =>
            hp'.keep hSk hho (fun q => by simp [g', appHdr, hs]) (fun s'' q' he => by simp [g', appHdr, hnd s'' q' he])
          cases hf : fr s' with
          | al s'' q' =>
            show PRep X.P w' g' s' (bif Nat.beq s'' d then .junk else .al s'' q') _
            cases hbq : Nat.beq s'' d with
            | true => trivial
            | false =>
              rw [hf] at hsl
              exact keep _ hsl (fun s3 q3 he => by
                rcases he with he | ⟨_, _, _, he⟩ <;> cases he
                intro e0; rw [e0, beq_self] at hbq; cases hbq)
          | addr e' s'' q' i k =>
            show PRep X.P w' g' s' (bif Nat.beq s'' d then .junk else .addr e' s'' q' i k) _
            cases hbq : Nat.beq s'' d with
            | true => trivial
            | false =>
              rw [hf] at hsl
              exact keep _ hsl (fun s3 q3 he => by
                rcases he with he | ⟨_, _, _, he⟩ <;> cases he
                intro e0; rw [e0, beq_self] at hbq; cases hbq)
          | _ =>
            rw [hf] at hsl
            exact keep _ hsl (fun s3 q3 he => by rcases he with he | ⟨_, _, _, he⟩ <;> cases he)
end
end Go.Ev
