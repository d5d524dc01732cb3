/-
  Own work. Appends of flat elements onto owned lists.
-/
import Derived.Test.YtamaghlnjchhbaaPuO
namespace Go.Pu
open Go Go.RowKit
set_option linter.unusedVariables false

/-- What an append leaves. -/
structure AppRes (P : Program) (w w' : World) (e : TypeId) (bOld : Option Nat) (n m : Nat) (fo fn : Nat → Nat → Value) (v' : Value) : Prop where
  ex : ∃ (b base cap : Nat) (cs : Array Value), v' = .slice (some ⟨b, base, none⟩) (n + m) cap ∧ n + m ≤ cap ∧ cap ≤ maxLen ∧ base + cap * szOf P e = cs.size ∧ w'.heap[b]? = some (.cells cs e (0, 0)) ∧
    (∀ i k, i < n → k < szOf P e → cs[base + (i * szOf P e + k)]? = some (fo i k)) ∧ (∀ i k, i < m → k < szOf P e → cs[base + ((n + i) * szOf P e + k)]? = some (fn i k)) ∧
    (some b = bOld ∨ (w.heap.size ≤ b)) ∧ (∀ k, k < w.heap.size → k ≠ b → w'.heap[k]? = w.heap[k]?)
  os : w'.os = w.os
  tape : w'.tape = w.tape
  output : w'.output = w.output
  size : w.heap.size ≤ w'.heap.size

theorem flat_get (f : Nat → Nat → Value) (m s j : Nat) (hj : j < m * s) : ((List.range (m * s)).map fun j => f (j / s) (j % s))[j]? = some (f (j / s) (j % s)) := by
  simp [hj]
theorem flat_get' (f : Nat → Nat → Value) (m s i k : Nat) (hi : i < m) (hk : k < s) : ((List.range (m * s)).map fun j => f (j / s) (j % s))[i * s + k]? = some (f i k) := by
  have hlt : i * s + k < m * s := by
    have : (i + 1) * s ≤ m * s := Nat.mul_le_mul_right s hi
    rw [Nat.add_mul, Nat.one_mul] at this
    omega
  rw [flat_get f m s _ hlt]
  have h1 : (i * s + k) / s = i := by rw [Nat.mul_comm, Nat.mul_add_div (by omega), Nat.div_eq_of_lt hk]; rfl
  have h2 : (i * s + k) % s = k := by rw [Nat.mul_comm, Nat.mul_add_mod, Nat.mod_eq_of_lt hk]
  rw [h1, h2]
theorem flat_inv (f : Nat → Nat → Value) (m s j : Nat) (v : Value) (h : ((List.range (m * s)).map fun j => f (j / s) (j % s))[j]? = some v) : j < m * s ∧ v = f (j / s) (j % s) := by
  have hj := (List.getElem?_eq_some_iff.1 h).1
  simp at hj
  rw [flat_get f m s j hj] at h
  exact ⟨hj, (Option.some.inj h).symm⟩

section
variable {P : Program} {w : World} {t ty e : TypeId}
theorem run_append_zero {i : TypeInfo} (ht : P.underlying t = some (.slice e)) (hi : P.info? e = some i) (A : Option Addr) (n cap : Nat) (hnc : n ≤ cap) (B : Option Addr) (c : Nat) :
    (Builtin.append_ #[t, t] ty #[.slice A n cap, .slice B 0 c]).run P w = .ok (.slice A n cap) w := by
  cases B <;> cases A <;> simp [Builtin.append_, run_underlying ht, sizeOf, typeInfo, hi, Builtin.lenOf, Builtin.firstCells, hnc, storeCells, loadCells, loadCellsFrom]

theorem run_append_room' {i : TypeInfo} (ht : P.underlying t = some (.slice e)) (hi : P.info? e = some i)
    (g base sLen sCap : Nat) (cur : Array Value) (hg : w.heap[g]? = some (.cells cur e (0, 0)))
    (a : Addr) (m c : Nat) (news : List Value) (hl : news.length = m * i.size) (hnews : ∀ (j : Nat) (u : Value), news[j]? = some u → w.cell? (a.add j) = some u) (h1 : ∀ u ∈ news, u.oneCell' = true)
    (hroom : sLen + m ≤ sCap) (hfit : base + sLen * i.size + news.length ≤ cur.size) :
    (Builtin.append_ #[t, t] ty #[.slice (some ⟨g, base, none⟩) sLen sCap, .slice (some a) m c]).run P w =
      .ok (.slice (some ⟨g, base, none⟩) (sLen + m) sCap) (w.setRow g (cur.toList.take (base + sLen * i.size) ++ news ++ cur.toList.drop (base + sLen * i.size + news.length)).toArray) := by
  have hf := run_firstCells_some (P := P) w i.size m a m c news hl hnews
  have hst := run_storeCells_at P g (base + sLen * i.size) e news 0 cur w hg (by simpa using hfit) h1
  simp only [Nat.add_zero] at hst
  simp [Builtin.append_, run_underlying ht, sizeOf, typeInfo, hi, Builtin.lenOf, hroom, hf, addr_add, hst]

theorem size_zeroCells' (z : Array Value) (n : Nat) : (Builtin.zeroCells z n).size = n * z.size := by simp [Builtin.zeroCells]

/-- append onto a row of one's own, m elements more (m not 0). -/
theorem run_append_own' {i : TypeInfo} {z : Value} (ht : P.underlying t = some (.slice e)) (hi : P.info? e = some i) (hz : i.zero = some z) (hzs : z.cells.size = i.size) (hpos : 0 < i.size)
    (v : Value) (n m : Nat) (fo fn : Nat → Nat → Value) (bOld : Option Nat)
    (hv : (n = 0 ∧ (v = .slice none 0 0 ∨ ∃ a, v = .slice (some a) 0 0)) ∨ ∃ b base cap cs, v = .slice (some ⟨b, base, none⟩) n cap ∧ bOld = some b ∧ w.heap[b]? = some (.cells cs e (0, 0)) ∧ n ≤ cap ∧ cap ≤ maxLen ∧ base + cap * szOf P e = cs.size ∧
      (∀ i k, i < n → k < szOf P e → cs[base + (i * szOf P e + k)]? = some (fo i k)))
    (a : Addr) (c : Nat) (hm : 0 < m) (hcell : ∀ i k, i < m → k < szOf P e → w.cell? (a.add (i * szOf P e + k)) = some (fn i k)) (h1 : ∀ i k, i < m → k < szOf P e → (fn i k).oneCell' = true)
    (h63 : n + m ≤ maxLen) (hby : (n + m) * i.bytes ≤ 140737488355328) :
    ∃ v' w', (Builtin.append_ #[t, t] ty #[v, .slice (some a) m c]).run P w = .ok v' w' ∧ AppRes P w w' e bOld n m fo fn v' := by
  have hsz : szOf P e = i.size := by simp [szOf, hi]
  rw [hsz] at hcell h1
  let news := (List.range (m * i.size)).map fun j => fn (j / i.size) (j % i.size)
  have hnl : news.length = m * i.size := by simp [news]
  have hdm : ∀ j, j < m * i.size → j / i.size < m ∧ j % i.size < i.size := fun j hj => ⟨Nat.div_lt_of_lt_mul (by rw [Nat.mul_comm]; exact hj), Nat.mod_lt _ hpos⟩
  have hnews : ∀ (j : Nat) (u : Value), news[j]? = some u → w.cell? (a.add j) = some u := fun j u hu => by
    obtain ⟨hj, rfl⟩ := flat_inv fn m i.size j u hu
    obtain ⟨q1, q2⟩ := hdm j hj
    have := hcell _ _ q1 q2
    rwa [Nat.div_add_mod'] at this
  have hn1 : ∀ u ∈ news, u.oneCell' = true := fun u hu => by
    obtain ⟨j, hj0⟩ := List.getElem?_of_mem hu
    obtain ⟨hj, rfl⟩ := flat_inv fn m i.size j u hj0
    obtain ⟨q1, q2⟩ := hdm j hj
    exact h1 _ _ q1 q2
  have hsmall : n + m ≤ 9223372036854775807 := by simp only [maxLen] at h63; omega
  have grown : ∀ (old : Nat) (olds : List Value), olds.length = n * i.size → (∀ i0 k, i0 < n → k < i.size → olds[i0 * i.size + k]? = some (fo i0 k)) →
      AppRes P w (w.drew.alloc (.cells (olds.toArray ++ news.toArray ++ Builtin.zeroCells z.cells (grownCap w (n + m) old e - (n + m))) e)) e bOld n m fo fn (.slice (some ⟨w.heap.size, 0, none⟩) (n + m) (grownCap w (n + m) old e)) := by
    intro old olds hol hog
    have hge := grownCap_ge w (n + m) old e
    have hcm : grownCap w (n + m) old e ≤ maxLen := grownCap_le_maxLen w (n + m) old e h63
    refine ⟨⟨w.heap.size, 0, _, _, rfl, hge, hcm, ?_, heap_alloc_new w.drew _, ?_, ?_, .inr (Nat.le_refl _), fun k hk _ => Below.heap_alloc w.drew _ k hk⟩, rfl, rfl, rfl, by simp⟩
    · simp only [Array.size_append, List.size_toArray, size_zeroCells', hzs, hol, hnl, hsz, ← Nat.add_mul, Nat.zero_add]
      congr 1
      omega
    · intro i0 k hi0 hk
      rw [hsz] at hk ⊢
      have hlt : i0 * i.size + k < n * i.size := by
        have : (i0 + 1) * i.size ≤ n * i.size := Nat.mul_le_mul_right _ hi0
        rw [Nat.add_mul, Nat.one_mul] at this
        omega
      rw [Array.append_assoc, Nat.zero_add, Array.getElem?_append_left (by simpa [hol] using hlt)]
      simpa using hog i0 k hi0 hk
    · intro i0 k hi0 hk
      rw [hsz] at hk ⊢
      have hlt : i0 * i.size + k < m * i.size := by
        have : (i0 + 1) * i.size ≤ m * i.size := Nat.mul_le_mul_right _ hi0
        rw [Nat.add_mul, Nat.one_mul] at this
        omega
      rw [Nat.add_mul, Nat.zero_add, Array.getElem?_append_left (by simp [hol, hnl]; omega), Array.getElem?_append_right (by simp [hol]; omega)]
      have e1 : n * i.size + i0 * i.size + k - olds.toArray.size = i0 * i.size + k := by simp [hol]; omega
      rw [e1, List.getElem?_toArray]
      exact flat_get' fn m i.size i0 k hi0 hk
  rcases hv with ⟨rfl, hv⟩ | ⟨b, base, cap, cs, rfl, rfl, hh, hnc, hcm, hcs, hold⟩
  · have hg0 := grown 0 [] (by simp) (fun i0 k h => absurd h (Nat.not_lt_zero _))
    rcases hv with rfl | ⟨a', rfl⟩
    · have hr := run_append_nil (P := P) w t ty e i z ht hi hz a m c news hnl hnews hm (by omega) (by have hb := hby; simp only [Nat.zero_add] at hb; omega)
      simp only [Nat.zero_add] at hg0
      refine ⟨_, _, hr, ?_⟩
      simpa using hg0
    · have hr := run_append_grow (P := P) w t ty e i z ht hi hz a' 0 0 [] (by simp) (fun j v h => by simp at h) a m c news hnl hnews (by omega) (by omega) (growslice_fits (by omega) hby)
      exact ⟨_, _, hr, hg0⟩
  · by_cases hroom : n + m ≤ cap
    · rw [hsz] at hcs
      have hfit : base + n * i.size + news.length ≤ cs.size := by
        have : (n + m) * i.size ≤ cap * i.size := Nat.mul_le_mul_right _ hroom
        rw [Nat.add_mul] at this
        omega
      have hfit' : base + n * i.size + news.length ≤ cs.toList.length := by simpa using hfit
      have hr := run_append_room' (P := P) (w := w) (ty := ty) ht hi b base n cap cs hh a m c news hnl hnews hn1 hroom hfit
      refine ⟨_, _, hr, ⟨⟨b, base, cap, _, rfl, hroom, hcm, ?_, setRow_heap w b cs _ e _ hh, ?_, ?_, .inl rfl, fun k _ hk => setRow_other w b k _ hk⟩, rfl, rfl, rfl, by rw [setRow_size]; exact Nat.le_refl _⟩⟩
      · rw [hsz]
        simp only [List.size_toArray, List.length_append, List.length_take, List.length_drop, Array.length_toList]
        omega
      · intro i0 k hi0 hk
        have hlt : i0 * szOf P e + k < n * i.size := by
          rw [hsz] at hk ⊢
          have : (i0 + 1) * i.size ≤ n * i.size := Nat.mul_le_mul_right _ hi0
          rw [Nat.add_mul, Nat.one_mul] at this
          omega
        rw [List.getElem?_toArray, vsplice_get _ _ _ hfit', if_neg (by omega), Array.getElem?_toList]
        exact hold i0 k hi0 hk
      · intro i0 k hi0 hk
        rw [hsz] at hk ⊢
        have hlt : i0 * i.size + k < m * i.size := by
          have : (i0 + 1) * i.size ≤ m * i.size := Nat.mul_le_mul_right _ hi0
          rw [Nat.add_mul, Nat.one_mul] at this
          omega
        rw [Nat.add_mul, List.getElem?_toArray, vsplice_get _ _ _ hfit', if_pos (by omega)]
        have e1 : base + (n * i.size + i0 * i.size + k) - (base + n * i.size) = i0 * i.size + k := by omega
        rw [e1]
        exact flat_get' fn m i.size i0 k hi0 hk
    · let olds := (List.range (n * i.size)).map fun j => fo (j / i.size) (j % i.size)
      have hol : olds.length = n * i.size := by simp [olds]
      have holds : ∀ (j : Nat) (u : Value), olds[j]? = some u → w.cell? ((⟨b, base, none⟩ : Addr).add j) = some u := fun j u hu => by
        obtain ⟨hj, rfl⟩ := flat_inv fo n i.size j u hu
        have q1 : j / i.size < n := Nat.div_lt_of_lt_mul (by rw [Nat.mul_comm]; exact hj)
        have := hold _ (j % i.size) q1 (by rw [hsz]; exact Nat.mod_lt _ hpos)
        rw [hsz, Nat.div_add_mod'] at this
        rw [addr_add, cell_of_row w b _ cs e (0, 0) hh]; exact this
      have hr := run_append_grow (P := P) w t ty e i z ht hi hz ⟨b, base, none⟩ n cap olds hol holds a m c news hnl hnews (by omega) (by omega) (growslice_fits (by omega) hby)
      exact ⟨_, _, hr, grown cap olds hol (fun i0 k hi0 hk => flat_get' fo n i.size i0 k hi0 hk)⟩
end
section
variable {X : Ctx} {D : Nat → Prop} {Γ : List FE} {st : St} {ρ : Env} {a : Act} {w : World} {g : G}
/-- A source's elements, as they lie in memory. -/
theorem src_view (hi : TInv X D st ρ a w g) {c : SC} {v : At} {e : TypeId} {b : Ty} {u : Value} (hf : b.flat = true) (hbn : b.n = szOf X.P e) (h0 : 0 < b.n) (hc : CRep w g (c.enc ρ) u) (hl : st.listVal c = .ok v) (ht : st.ty v = .ok (.sl e b)) :
    ∃ (A : Option Addr) (cap : Nat) (fn : Nat → Nat → Value), u = .slice A ((v.get ρ).as (.sl e b)).length cap ∧
      (((v.get ρ).as (.sl e b) : List b.den) ≠ [] → ∃ ad, A = some ad ∧ ∀ i k, i < ((v.get ρ).as (.sl e b)).length → k < szOf X.P e → w.cell? (ad.add (i * szOf X.P e + k)) = some (fn i k)) ∧
      ∀ (i : Nat) (y : b.den) (k : Nat) (q : C), ((v.get ρ).as (.sl e b) : List b.den)[i]? = some y → (enc none b y)[k]? = some q → CRep w g q (fn i k) := by
  have fromRo : ∀ (rg : Rg) (els : List (List C)), CRep w g (.ro rg els) u → els.length = ((v.get ρ).as (.sl e b)).length → (∀ (i : Nat) (y : b.den), ((v.get ρ).as (.sl e b) : List b.den)[i]? = some y → els[i]? = some (enc none b y)) →
      ∃ (A : Option Addr) (cap : Nat) (fn : Nat → Nat → Value), u = .slice A ((v.get ρ).as (.sl e b)).length cap ∧
      (((v.get ρ).as (.sl e b) : List b.den) ≠ [] → ∃ ad, A = some ad ∧ ∀ i k, i < ((v.get ρ).as (.sl e b)).length → k < szOf X.P e → w.cell? (ad.add (i * szOf X.P e + k)) = some (fn i k)) ∧
      ∀ (i : Nat) (y : b.den) (k : Nat) (q : C), ((v.get ρ).as (.sl e b) : List b.den)[i]? = some y → (enc none b y)[k]? = some q → CRep w g q (fn i k) := fun rg els h hlen hget => by
    generalize (v.get ρ).as (.sl e b) = xs at hlen hget ⊢
    cases h with
    | ro0 _ A cap =>
      have : xs = [] := List.eq_nil_of_length_eq_zero hlen.symm
      subst this
      exact ⟨A, cap, fun _ _ => undef, rfl, fun h => absurd rfl h, fun i y k q h => by simp at h⟩
    | ro _ _ bb off n cap s f hn hcap hm hS hs hsz hcell hrep =>
      refine ⟨some ⟨bb, off, none⟩, cap, f, by rw [hn, hlen], fun hne => ⟨_, rfl, fun i k hi hk => ?_⟩, fun i y k q h1 h2 => hrep i _ k q (hget i y h1) h2⟩
      have hx : (xs : List b.den)[i]? = some (xs[i]'hi) := List.getElem?_eq_getElem hi
      have hg := hget i _ hx
      have hss : s = szOf X.P e := by rw [← hbn, ← hsz i _ hg, enc_length]
      rw [addr_add, ← hss]
      have hkl : k < (enc none b (xs[i]'hi)).length := by rw [enc_length]; omega
      exact hcell i _ k _ hg (List.getElem?_eq_getElem hkl)
  by_cases hh : ∃ r, c = .h r
  · obtain ⟨r, rfl⟩ := hh
    obtain ⟨e', b', nl, inner, hr, hv⟩ := listVal_h hl
    have hee := ty_inj ht (ok_ty hv)
    cases hee
    simp only [SC.enc] at hc
    have hro := row_ro (row_of hi hr)
    rw [← hd_eq hc] at hro
    refine fromRo _ _ hro (by simp) fun i y hy => ?_
    rw [List.getElem?_mapIdx, hy]
    simp only [Option.map_some, Option.some.injEq]
    cases inner with
    | none => simp only [encIn]; exact encE_flat r i none 0 b y hf
    | some rg => simp only [encIn]; exact enc_flat rg none b y hf
  · have := list_ro hi hc hl ht (fun r hr => hh ⟨r, hr⟩)
    refine fromRo _ _ this (by simp) fun i y hy => ?_
    rw [List.getElem?_map, hy]
    simp only [Option.map_some, Option.some.injEq]
    exact enc_flat _ none b y hf
theorem gapp_ok {α : Type} {bytes : Nat} {xs ys zs : List α} (h : gapp bytes xs ys = some zs) : (xs.length + ys.length) * bytes ≤ 140737488355328 ∧ xs.length + ys.length ≤ 140737488355328 ∧ zs = xs ++ ys := by
  unfold gapp at h
  split at h
  · rename_i hf
    simp only [gfit, decide_eq_true_eq] at hf
    simp only [Option.some.injEq] at h
    exact ⟨hf.1, hf.2, h.symm⟩
  · cases h
theorem noD (hi : TInv X D st ρ a w g) (hd : st.dirty = []) (b : Nat) : ¬ D b := fun h => by
  obtain ⟨p, q, hp, _⟩ := hi.dirt b h
  rw [hd] at hp; cases hp
theorem zeroN_spec {P : Program} {e : TypeId} {n : Nat} (h : zeroN P e = some n) : ∃ i z, P.info? e = some i ∧ i.zero = some z ∧ z.cells.size = n := by
  unfold zeroN at h
  cases hz : zeroSC P e with
  | none => simp [hz] at h
  | some cs =>
    simp only [hz, Option.some.injEq] at h
    obtain ⟨i, z, h1, h2, rfl⟩ := zeroSC_spec hz
    exact ⟨i, z, h1, h2, by simpa using h⟩
variable {d : Nat} {x y : Operand} {t t' ty : TypeId} {ps : String} {af : Array Edge} {gd : Option (Nat × Bool)} {s : Step} {nr : Bool}
theorem flat_noRow : ∀ (t : Ty) (k j : Nat) (x : t.den), t.flat = true → subRow k t x j = none := by
  intro t
  induction t with
  | pr a b iha ihb =>
    intro k j x hf
    simp only [Ty.flat, Bool.and_eq_true] at hf
    simp only [subRow]
    cases Nat.blt j (k + a.n)
    · exact ihb _ _ _ hf.2
    · exact iha _ _ _ hf.1
  | sl e a => intro k j x hf; simp [Ty.flat] at hf
  | _ => intro k j x hf; simp [subRow]
theorem flat_scal : ∀ (t : Ty) (x : t.den) (j : Nat) (q : C), t.flat = true → (enc none t x)[j]? = some q → (∃ kd z, q = .int kd z) ∨ (∃ bv, q = .bool bv) := by
  intro t
  induction t with
  | int kd => intro x j q _ hj; have hk : j = 0 := by { have := (List.getElem?_eq_some_iff.1 hj).1; simp [enc] at this; exact this }; subst hk; simp only [enc, List.getElem?_cons_zero, Option.some.injEq] at hj; exact .inl ⟨kd, x, hj.symm⟩
  | bool => intro x j q _ hj; have hk : j = 0 := by { have := (List.getElem?_eq_some_iff.1 hj).1; simp [enc] at this; exact this }; subst hk; simp only [enc, List.getElem?_cons_zero, Option.some.injEq] at hj; exact .inr ⟨x, hj.symm⟩
  | unit => intro x j q _ hj; simp [enc] at hj
  | pr a b iha ihb =>
    intro x j q hf hj
    simp only [Ty.flat, Bool.and_eq_true] at hf
    simp only [enc, List.getElem?_append] at hj
    split at hj
    · exact iha _ _ _ hf.1 hj
    · exact ihb _ _ _ hf.2 hj
  | sl e a => intro x j q hf; simp [Ty.flat] at hf
  | mp => intro x j q hf; simp [Ty.flat] at hf
theorem scal_rep {w' : World} {g' : G} {q : C} {u : Value} (hq : CRep w g q u) (h : (∃ kd z, q = .int kd z) ∨ (∃ bv, q = .bool bv)) : CRep w' g' q u := by
  rcases h with ⟨kd, z, rfl⟩ | ⟨bv, rfl⟩
  · cases hq; exact .int _ _
  · cases hq; exact .bool _
theorem scal_one {q : C} {u : Value} (hq : CRep w g q u) (h : (∃ kd z, q = .int kd z) ∨ (∃ bv, q = .bool bv)) : u.oneCell' = true := by
  rcases h with ⟨kd, z, rfl⟩ | ⟨bv, rfl⟩
  · cases hq; rfl
  · cases hq; rfl
theorem appFlat_ok {r : Nat} {sv : SV} (hN : d < X.N) (h : appFlat X.P st d t r sv = .ok s) (hi : TInv X D st ρ a w g) (hw : st.wf = true) (hk : st.rok = true) {ρ' : Env} (hev : evalB Γ (s.es.map (·.1)) ρ = some ρ')
    (hx : a.eval x = g.hdr (r, [])) (hy : st.val y = .ok sv ∨ (PRep X.P w g (sv.enc ρ) (a.eval y))) :
    (⟨some d, .call { callee := .builtin .append, args := #[x, y], argTypes := #[t, t] }, ty, ps, af, gd⟩ : Oper).wp X.P a w (fun a' w' => (g.hdr (r, []) = .slice none 0 0 → RelD D w w') ∧ ∃ g', TInv X D s.st ρ' a' w' g') (fun _ _ _ => False) := by
  have hyr : PRep X.P w g (sv.enc ρ) (a.eval y) := by
    rcases hy with hy | hy
    · exact val_rep hi hy
    · exact hy
  unfold appFlat at h
  split at h
  · rename_i e e' b val nl he hr
    by_cases hc : (e = e' ∧ b.flat = true ∧ (!st.fix.contains r) = true ∧ st.dirty.isEmpty = true ∧ val.ty st.ts = some (.sl e b) ∧ b.n = szOf X.P e ∧ 0 < b.n ∧ 0 < bytesOf X.P e ∧ zeroN X.P e = some b.n)
    · rw [if_neg (fun hh => hh hc)] at h
      obtain ⟨hee, hf, hfix, hdirty, hvt, hbn, h0, hby0, hz⟩ := hc
      subst hee
      obtain ⟨ti, z, hinfo, hzero, hzs⟩ := zeroN_spec hz
      have hu := elem_under he
      have hrow := row_of hi hr
      have hvg := V.list_of (At.ty_get hi.typ hvt)
      generalize hxs : (val.get ρ).as (.sl e b) = xs at hrow hvg
      have hisz : ti.size = szOf X.P e := by simp [szOf, hinfo]
      have hib : ti.bytes = bytesOf X.P e := by simp [bytesOf, hinfo]
      have hexec : ∀ (A : Option Addr) (m c : Nat) (v' : Value) (w' : World), a.eval y = .slice A m c → (Builtin.append_ #[t, t] ty #[g.hdr (r, []), .slice A m c]).run X.P w = .ok v' w' →
          (execOp a.eval ⟨some d, .call { callee := .builtin .append, args := #[x, y], argTypes := #[t, t] }, ty, ps, af, gd⟩).run X.P w = .ok (.value v') w' := fun A m c v' w' hye hrn => by
        simp only [execOp, resolve, invoke, builtin, Sem.run_bind, Sem.run_pure, Result.andThen_ok, List.map_toArray, List.map_cons, List.map_nil, hx, hye, hrn]
      have hcap : ∃ B n c, g.hdr (r, []) = .slice B n c ∧ n ≤ c := by
        generalize (xs.mapIdx fun i y => encIn none r i b y) = els at hrow
        cases hrow with
        | nil _ _ hd => exact ⟨_, _, _, hd, Nat.le_refl _⟩
        | zero _ A hd => exact ⟨_, _, _, hd, Nat.le_refl _⟩
        | full _ _ _ _ bb base n cap cs f hrf => exact ⟨_, _, _, hrf.hd, hrf.hcap⟩
      have hzero0 : ∀ (A : Option Addr) (c : Nat), (Builtin.append_ #[t, t] ty #[g.hdr (r, []), .slice A 0 c]).run X.P w = .ok (g.hdr (r, [])) w := fun A c => by
        obtain ⟨B, n, c', h1, h2⟩ := hcap
        rw [h1]; exact run_append_zero hu hinfo B n c' h2 A c
      split at h
      · simp only [Except.ok.injEq] at h
        subst h
        have := evalB_nil hev
        subst this
        have hye : a.eval y = .slice none 0 0 := by
          have hyr : CRep w g .nil (a.eval y) := hyr
          generalize a.eval y = u at hyr
          cases hyr; rfl
        unfold Oper.wp
        rw [hexec _ _ _ _ _ hye (hzero0 none 0)]
        exact ⟨fun _ => .refl _ _, g, hi.put hN (.hd _ _ rfl)⟩
      · rename_i src hne
        have hb := ok_bind h
        clear h
        obtain ⟨v, hl, h⟩ := hb
        have hb := ok_bind h
        clear h
        obtain ⟨tv, hvty, h⟩ := hb
        by_cases hc2 : (tv = .sl e b ∧ (!srcBad r src) = true)
        · rw [if_neg (fun hh => hh hc2)] at h
          simp only [Except.ok.injEq] at h
          subst h
          obtain ⟨rfl, hbad⟩ := hc2
          obtain ⟨A, cap2, fn, hye, hcells, hreps⟩ := src_view hi hf hbn h0 hyr hl hvty
          have hvg2 := V.list_of (ty_get hi hvty)
          generalize hys : (v.get ρ).as (.sl e b) = ys at hye hcells hreps hvg2
          obtain ⟨v', hv', rfl⟩ := evalB_one hev
          simp only [Ex.den1, Ex.den, hvg, hvg2, V.as_self, Option.bind_eq_some_iff, Option.some.injEq] at hv'
          obtain ⟨zs, hzs', rfl⟩ := hv'
          obtain ⟨fit1, fit2, rfl⟩ := gapp_ok hzs'
          have hi2 := hi.bindOne hw (v := ⟨.sl e b, xs ++ ys⟩) rfl
          have hval : ((At.r ⟨st.nx, []⟩).get (ρ ++ [⟨.sl e b, xs ++ ys⟩])).as (.sl e b) = xs ++ ys := by
            have : (st.ref).get (ρ ++ [⟨.sl e b, xs ++ ys⟩]) = ⟨.sl e b, xs ++ ys⟩ := ref_get hi.len
            have h2 : (At.r ⟨st.nx, []⟩).get (ρ ++ [⟨.sl e b, xs ++ ys⟩]) = ⟨.sl e b, xs ++ ys⟩ := this
            rw [h2]; exact V.as_self _ _
          have hdn := noD hi (by simpa using hdirty)
          -- the state behind, from the new world
          have fin : ∀ (w' : World) (g' : G) (v' : Value), Stab (st.bind (.sl e b)).nr true r w g w' g' → GOK X g' w' → g'.hdr (r, []) = v' → RowRep X.P w' g' (r, []) (.row false nl e ((xs ++ ys).mapIdx fun i y => encIn none r i b y)) →
              (∀ b0 l, l.1 ≠ r → g.own b0 = some l → g'.own b0 = some l ∧ w'.heap[b0]? = w.heap[b0]?) → ∃ g'', TInv X D ((((st.bind (.sl e b)).kill true r).setR r (.list e b (.r ⟨st.nx, []⟩) nl none)).put d (.c (.h r))) (ρ ++ [⟨.sl e b, xs ++ ys⟩]) (a.put (some d) v') w' g'' := fun w' g' v' S hok hdv hrow' hown => by
            have hm := hi2.mut (rok_bind hk _) S hok (.list e b (.r ⟨st.nx, []⟩) nl none) (fun p row hp => by
              cases p with
              | nil => rw [rows_nil_list, hval] at hp; cases hp; exact hrow'
              | cons q p =>
                obtain ⟨_, rfl, y', _, hs⟩ := rows_cons_list hp
                rw [flat_noRow _ _ _ _ hf] at hs; cases hs) (by have h0 : st.fix.contains r = false := by { simpa using hfix }; exact fun _ => h0) hown st.dirty (fun b0 hb0 => absurd hb0 (hdn b0))
            exact ⟨g', TInv.put hm hN (.hd _ _ hdv.symm)⟩
          by_cases hm0 : ys = []
          · subst hm0
            unfold Oper.wp
            rw [hexec _ _ _ _ _ hye (hzero0 A cap2)]
            refine ⟨fun _ => .refl _ _, fin w g _ ⟨fun _ _ _ _ => rfl, fun _ _ _ b0 hb0 => ⟨hb0, rfl⟩⟩ hi.inv.ok rfl (by rw [List.append_nil]; exact hrow) (fun _ _ _ h => ⟨h, rfl⟩)⟩
          · obtain ⟨ad, rfl, hcell⟩ := hcells hm0
            have hyget : ∀ i, i < ys.length → (ys : List b.den)[i]? = some (ys.getD i b.dflt) := fun i hi => by rw [List.getD, List.getElem?_eq_getElem hi]; rfl
            have hone : ∀ i k, i < ys.length → k < szOf X.P e → (fn i k).oneCell' = true := fun i k hi hk => by
              have hkl : k < (enc none b (ys.getD i b.dflt)).length := by rw [enc_length]; omega
              have hq := List.getElem?_eq_getElem hkl
              exact scal_one (hreps i _ k _ (hyget i hi) hq) (flat_scal b _ k _ hf hq)
            have hels : ∀ (i : Nat) (y : b.den), (xs : List b.den)[i]? = some y → (xs.mapIdx fun i y => encIn none r i b y)[i]? = some (enc none b y) := fun i y hy => by
              rw [List.getElem?_mapIdx, hy]; simp only [Option.map_some, encIn, encE_flat r i none 0 b y hf]
            have hxget : ∀ i, i < xs.length → (xs : List b.den)[i]? = some (xs.getD i b.dflt) := fun i hi => by rw [List.getD, List.getElem?_eq_getElem hi]; rfl
            -- the old row
            have hold : ∃ (fo : Nat → Nat → Value) (bOld : Option Nat), (∀ b0, bOld = some b0 → g.own b0 = some (r, [])) ∧ (g.hdr (r, []) = .slice none 0 0 → bOld = none) ∧
                ((xs.length = 0 ∧ (g.hdr (r, []) = .slice none 0 0 ∨ ∃ a, g.hdr (r, []) = .slice (some a) 0 0)) ∨ ∃ b0 base cap cs, g.hdr (r, []) = .slice (some ⟨b0, base, none⟩) xs.length cap ∧ bOld = some b0 ∧ w.heap[b0]? = some (.cells cs e (0, 0)) ∧ xs.length ≤ cap ∧ cap ≤ maxLen ∧ base + cap * szOf X.P e = cs.size ∧
                  (∀ i k, i < xs.length → k < szOf X.P e → cs[base + (i * szOf X.P e + k)]? = some (fo i k))) ∧
                ∀ (i : Nat) (y : b.den) (k : Nat) (q : C), (xs : List b.den)[i]? = some y → (enc none b y)[k]? = some q → CRep w g q (fo i k) := by
              generalize hl0 : (xs.mapIdx fun i y => encIn none r i b y) = els at hrow hels
              have hl1 : els.length = xs.length := by rw [← hl0]; simp
              cases hrow with
              | nil _ _ hd => exact ⟨fun _ _ => undef, none, (fun _ h => (by cases h)), fun _ => rfl, .inl ⟨hl1.symm, .inl hd⟩, (fun i y k q h => (by have : xs = [] := List.eq_nil_of_length_eq_zero hl1.symm; subst this; simp at h))⟩
              | zero _ A hd => exact ⟨fun _ _ => undef, none, (fun _ h => (by cases h)), fun _ => rfl, .inl ⟨hl1.symm, .inr ⟨A, hd⟩⟩, (fun i y k q h => (by have : xs = [] := List.eq_nil_of_length_eq_zero hl1.symm; subst this; simp at h))⟩
              | full _ _ _ _ b0 base n cap cs f hrf =>
                have hn := hrf.len
                rw [hl1] at hn
                subst hn
                have hd : g.hdr (r, []) = .slice (some ⟨b0, base, none⟩) xs.length cap := hrf.hd
                refine ⟨f, some b0, fun _ h => (by cases h; exact hrf.own), fun h => (by rw [hd] at h; cases h), .inr ⟨b0, base, cap, cs, hd, rfl, hrf.heap, hrf.hcap, hrf.hmax, hrf.fit, fun i k hi hk => ?_⟩, fun i y k q h1 h2 => hrf.rep i _ k q (hels i y h1) h2⟩
                have hg := hels i _ (hxget i hi)
                exact hrf.cell i _ k _ hg (List.getElem?_eq_getElem (by rw [enc_length]; omega))
            obtain ⟨fo, bOld, hbo, hbn0, hv, hro⟩ := hold
            obtain ⟨v', w', hr', hA⟩ := run_append_own' (P := X.P) (w := w) (ty := ty) hu hinfo hzero (by rw [hzs, hbn, hisz]) (by rw [hisz]; omega) (g.hdr (r, [])) xs.length ys.length fo fn bOld hv ad cap2 (List.length_pos_iff.2 hm0) hcell hone (by simp only [maxLen]; omega) (by rw [hib]; exact fit1)
            unfold Oper.wp
            rw [hexec _ _ _ _ _ hye hr']
            obtain ⟨⟨b1, base, cap, cs, rfl, hcap1, hmax, hfit, hh, hco, hcn, hbb, hkeep⟩, hos, htape, hout, hsize⟩ := hA
            have hok := hi.inv.ok
            have hown1 : ∀ l, g.own b1 = some l → l = (r, []) := fun l hl => by
              rcases hbb with hbb | hbb
              · have := hbo b1 hbb.symm
                rw [hl] at this; exact Option.some.inj this
              · have := (hok.own b1 _ hl).2.1; omega
            have hS1 : ¬ g.S b1 := by
              rcases hbb with hbb | hbb
              · exact (hok.own b1 _ (hbo b1 hbb.symm)).2.2
              · intro hS; have := (hok.S b1 hS).1; omega
            have hO1 : X.O0 b1 ∨ X.B0 ≤ b1 := by
              rcases hbb with hbb | hbb
              · exact (hok.own b1 _ (hbo b1 hbb.symm)).1
              · exact .inr (Nat.le_trans hok.base hbb)
            have hlt1 : b1 < w'.heap.size := (Array.getElem?_eq_some_iff.1 hh).1
            let g' : G := ⟨g.S, fun b0 => if b0 = b1 then some (r, []) else g.own b0, fun l => if l = (r, []) then .slice (some ⟨b1, base, none⟩) (xs.length + ys.length) cap else g.hdr l⟩
            have hrel : g.hdr (r, []) = .slice none 0 0 → RelD D w w' := fun hnil => by
              have := hbn0 hnil
              subst this
              refine ⟨hsize, fun b0 hb0 _ => hkeep b0 hb0 ?_⟩
              rcases hbb with hbb | hbb
              · cases hbb
              · omega
            refine ⟨hrel, fin w' g' _ ⟨fun l h1 h2 h3 => ?_, fun rg hne _ b0 hb0 => ?_⟩ ⟨hok.chg.trans ⟨hos, htape, hout, hsize, fun k hk hO => hkeep k (Nat.lt_of_lt_of_le hk hok.base) (fun e0 => by subst e0; rcases hO1 with h | h; exact hO h; omega)⟩, Nat.le_trans hok.base hsize, fun b0 hb0 => ⟨Nat.lt_of_lt_of_le (hok.S b0 hb0).1 hsize, (hok.S b0 hb0).2⟩, fun b0 l hl => ?_⟩ (by simp [g']) ?_ (fun b0 l hl hb0 => ?_)⟩
            · simp only [g']
              rw [if_neg]
              intro e0
              subst e0
              rcases h1 with h1 | h1
              · cases h1
              · exact h1 rfl
            · have hbne : b0 ≠ b1 := fun e0 => by
                subst e0
                cases rg with
                | none => exact hS1 hb0
                | some r' =>
                  rcases hb0 with hb0 | ⟨q, hb0⟩
                  · exact hS1 hb0
                  · have := hown1 _ hb0; cases this; exact hne rfl
              have hlt0 : b0 < w.heap.size := by
                cases rg with
                | none => exact (hok.S b0 hb0).1
                | some r' =>
                  rcases hb0 with hb0 | ⟨q, hb0⟩
                  · exact (hok.S b0 hb0).1
                  · exact (hok.own b0 _ hb0).2.1
              refine ⟨?_, hkeep b0 hlt0 hbne⟩
              cases rg with
              | none => exact hb0
              | some r' =>
                rcases hb0 with hb0 | ⟨q, hb0⟩
                · exact .inl hb0
                · exact .inr ⟨q, by simp only [g']; rw [if_neg hbne]; exact hb0⟩
            · simp only [g'] at hl
              split at hl
              · rename_i e0; subst e0; exact ⟨hO1, hlt1, hS1⟩
              · obtain ⟨h1, h2, h3⟩ := hok.own b0 l hl
                exact ⟨h1, Nat.lt_of_lt_of_le h2 hsize, h3⟩
            · have hl2 : ((xs ++ ys).mapIdx fun i y => encIn none r i b y).length = xs.length + ys.length := by simp
              have hget : ∀ (i : Nat) (c : List C), ((xs ++ ys).mapIdx fun i y => encIn none r i b y)[i]? = some c → ∃ y, c = enc none b y ∧ ((i < xs.length ∧ (xs : List b.den)[i]? = some y) ∨ (xs.length ≤ i ∧ i - xs.length < ys.length ∧ (ys : List b.den)[i - xs.length]? = some y)) := fun i c hc => by
                rw [List.getElem?_mapIdx, Option.map_eq_some_iff] at hc
                obtain ⟨y, hy, rfl⟩ := hc
                refine ⟨y, by simp only [encIn]; exact encE_flat r i none 0 b y hf, ?_⟩
                rcases Nat.lt_or_ge i xs.length with hlt | hge
                · rw [List.getElem?_append_left hlt] at hy; exact .inl ⟨hlt, hy⟩
                · rw [List.getElem?_append_right hge] at hy; exact .inr ⟨hge, (List.getElem?_eq_some_iff.1 hy).1, hy⟩
              refine .full _ _ _ _ b1 base (xs.length + ys.length) cap cs (fun i k => if i < xs.length then fo i k else fn (i - xs.length) k) ⟨by simp [g', hdrOf], by simp [g'], hh, hl2.symm, hcap1, hmax, hfit, by omega, fun i c hc => ?_, fun i c k q h1 h2 => ?_, fun i c k q h1 h2 => ?_, fun _ e0 => ?_⟩
              · obtain ⟨y, rfl, _⟩ := hget i c hc
                rw [enc_length]; exact hbn
              · obtain ⟨y, rfl, hin⟩ := hget i c h1
                have hkk : k < szOf X.P e := by rw [← hbn, ← enc_length none b y]; exact (List.getElem?_eq_some_iff.1 h2).1
                rcases hin with ⟨hlt, _⟩ | ⟨hge, hlt, _⟩
                · rw [if_pos hlt]; exact hco i k hlt hkk
                · rw [if_neg (by omega)]
                  have := hcn (i - xs.length) k hlt hkk
                  rwa [show xs.length + (i - xs.length) = i from by omega] at this
              · obtain ⟨y, rfl, hin⟩ := hget i c h1
                have hsc := flat_scal b y k q hf h2
                rcases hin with ⟨hlt, hy⟩ | ⟨hge, hlt, hy⟩
                · rw [if_pos hlt]; exact scal_rep (hro i y k q hy h2) hsc
                · rw [if_neg (by omega)]; exact scal_rep (hreps _ y k q hy h2) hsc
              · rw [e0] at hl2
                have := List.length_pos_iff.2 hm0
                simp at hl2; omega
            · have hbne : b0 ≠ b1 := fun e0 => by subst e0; have := hown1 _ hb0; subst this; exact hl rfl
              exact ⟨by simp only [g']; rw [if_neg hbne]; exact hb0, hkeep b0 (hok.own b0 _ hb0).2.1 hbne⟩
        · rw [if_pos hc2] at h; cases h
      · cases h
    · rw [if_pos hc] at h; cases h
  · cases h
end
end Go.Pu
