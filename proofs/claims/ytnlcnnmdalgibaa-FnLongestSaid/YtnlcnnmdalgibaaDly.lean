/-
  Own work. Delays from a node, plainly.
-/
import Derived.Test.YtnlcnnmdalgibaaTma
namespace Go.Pf
open Go Go.Pu
set_option linter.unusedVariables false

def into (as : List Arc) (v : Nat) : List Arc := as.filter fun a => decide (a.2.1 = (v : Int))
def tab (N : Nat) (as : List Arc) : List (List Arc) := (List.range N).map (into as)
theorem tab_len (N : Nat) (as : List Arc) : (tab N as).length = N := by simp [tab]
theorem tab_get {N : Nat} (as : List Arc) {v : Nat} (h : v < N) : gget [] (tab N as) (v : Int) = some (into as v) := by
  rw [gget_nat (by rw [tab_len]; exact h)]
  simp [tab]
theorem tab_nil (N : Nat) : List.replicate N ([] : List Arc) = tab N [] := by
  apply List.ext_getElem?
  intro j
  by_cases hj : j < N
  · simp [tab, hj, into]
  · rw [List.getElem?_eq_none (by simp; omega), List.getElem?_eq_none (by rw [tab_len]; omega)]
theorem into_app (as : List Arc) (a : Arc) (v : Nat) : into (as ++ [a]) v = if a.2.1 = (v : Int) then into as v ++ [a] else into as v := by
  unfold into
  rw [List.filter_append]
  by_cases h : a.2.1 = (v : Int)
  · rw [if_pos h]; simp [h]
  · rw [if_neg h]; simp [h]
theorem tab_set {N : Nat} (as : List Arc) (a : Arc) {v : Nat} (h : v < N) (ha : a.2.1 = (v : Int)) : gset (tab N as) (v : Int) (into as v ++ [a]) = tab N (as ++ [a]) := by
  rw [gset_nat]
  apply List.ext_getElem?
  intro j
  by_cases hj : j < N
  · by_cases he : v = j
    · subst he
      rw [List.getElem?_set_self (by rw [tab_len]; exact hj)]
      simp [tab, hj, into_app, ha]
    · rw [List.getElem?_set_ne he]
      simp only [tab, List.getElem?_map, List.getElem?_range hj, Option.map_some, into_app, ha]
      rw [if_neg (by omega)]
  · rw [List.getElem?_eq_none (by rw [List.length_set, tab_len]; omega), List.getElem?_eq_none (by rw [tab_len]; omega)]
theorem into_len (as : List Arc) (v : Nat) : (into as v).length ≤ as.length := List.length_filter_le _ _
theorem into_mem {as : List Arc} {v : Nat} {a : Arc} (h : a ∈ into as v) : a ∈ as ∧ a.2.1 = (v : Int) := by
  have := List.mem_filter.1 h
  exact ⟨this.1, of_decide_eq_true this.2⟩
theorem gapp24 {xs ys : List Arc} (h : xs.length + ys.length ≤ 1000000000) : gapp 24 xs ys = some (xs ++ ys) := gapp_some (by omega) (by omega)
theorem arcs_impl (g : TG) (h : timP g = true) : impl_arcsInto g = some (tab g.1.toNat g.2) := by
  obtain ⟨hn, hl⟩ := timP_len h
  obtain ⟨N, hN⟩ : ∃ N : Nat, g.1 = (N : Int) := ⟨g.1.toNat, by omega⟩
  unfold impl_arcsInto
  dsimp only
  rw [hN, gmake_nat (by omega) (by omega), tab_nil]
  simp only [Option.bind_some, Int.toNat_natCast]
  refine Eq.trans (loop_upto g.2.length (fun k => ((k : Int), tab N (g.2.take k))) (fun k hk => ?_) ?_ (o := tab N (g.2.take g.2.length))) (by rw [List.take_length])
  · have ha := timP_arc h (List.getElem_mem hk)
    obtain ⟨v, hv⟩ : ∃ v : Nat, (g.2[k]).2.1 = (v : Int) := ⟨((g.2[k]).2.1).toNat, by omega⟩
    have hvN : v < N := by omega
    have hil := into_len (g.2.take k) v
    have htl : (g.2.take k).length ≤ k := by rw [List.length_take]; omega
    dsimp only
    rw [dt (by omega), cond_true, gget_nat hk]
    simp only [Option.bind_some]
    rw [hv, tab_len, gin_nat hvN, tab_get _ hvN]
    simp only [Option.bind_some]
    rw [gapp24 (by simp; omega)]
    simp only [Option.bind_some]
    rw [tab_set _ _ hvN hv, take_succ' g.2 k hk, wrap_ok (by omega)]; rfl
  · dsimp only
    rw [df (by omega), cond_false]; rfl

def dS (lng : Bool) (D : List Int) (b : Int) (a : Arc) : Int :=
  if D.getD a.1.toNat 0 < 0 then b else if b < 0 then wrap .i64 (D.getD a.1.toNat 0 + a.2.2) else
    bif lng then (if b < wrap .i64 (D.getD a.1.toNat 0 + a.2.2) then wrap .i64 (D.getD a.1.toNat 0 + a.2.2) else b) else (if wrap .i64 (D.getD a.1.toNat 0 + a.2.2) < b then wrap .i64 (D.getD a.1.toNat 0 + a.2.2) else b)
def dB (lng : Bool) (D : List Int) (b : Int) (l : List Arc) (j : Nat) : Int := (l.take j).foldl (dS lng D) b
theorem dB_succ (lng : Bool) (D : List Int) (b : Int) (l : List Arc) (j : Nat) (h : j < l.length) : dB lng D b l (j + 1) = dS lng D (dB lng D b l j) l[j] := by
  unfold dB; rw [take_succ' l j h, List.foldl_append]; rfl
def dD (as : List Arc) (src : Int) (lng : Bool) : Nat → List Int
  | 0 => []
  | n + 1 => dD as src lng n ++ [dB lng (dD as src lng n) (if (n : Int) = src then 0 else -1) (into as n) (into as n).length]
theorem dD_len (as : List Arc) (src : Int) (lng : Bool) (n : Nat) : (dD as src lng n).length = n := by
  induction n with
  | zero => rfl
  | succ n ih => simp [dD, ih]
theorem dB_neg (lng : Bool) (D : List Int) (b : Int) (l : List Arc) (h : ∀ a ∈ l, D.getD a.1.toNat 0 < 0) (j : Nat) : dB lng D b l j = b := by
  unfold dB
  have h2 : ∀ a ∈ l.take j, D.getD a.1.toNat 0 < 0 := fun a ha => h a (List.mem_of_mem_take ha)
  revert h2
  generalize l.take j = q
  intro h2
  induction q with
  | nil => rfl
  | cons a r ih =>
    rw [List.foldl_cons]
    have e : dS lng D b a = b := by unfold dS; rw [if_pos (h2 a (List.mem_cons_self))]
    rw [e]
    exact ih (fun x hx => h2 x (List.mem_cons_of_mem _ hx))
theorem getD_app {xs : List Int} {y : Int} {i : Nat} (h : i < xs.length) : (xs ++ [y]).getD i 0 = xs.getD i 0 := by
  simp [List.getD, List.getElem?_append_left h]
theorem dD_neg {g : TG} (h : timP g = true) (src : Int) (lng : Bool) (n : Nat) : (n : Int) ≤ src → ∀ i, i < n → (dD g.2 src lng n).getD i 0 < 0 := by
  induction n with
  | zero => intro _ i hi; omega
  | succ n ih =>
    intro hs i hi
    have ih := ih (by omega)
    unfold dD
    by_cases hin : i < n
    · rw [getD_app (by rw [dD_len]; exact hin)]; exact ih i hin
    · have : i = n := by omega
      subst this
      have e : (dD g.2 src lng i ++ [dB lng (dD g.2 src lng i) (if (i : Int) = src then 0 else -1) (into g.2 i) (into g.2 i).length]).getD i 0 = dB lng (dD g.2 src lng i) (if (i : Int) = src then 0 else -1) (into g.2 i) (into g.2 i).length := by
        rw [List.getD, List.getElem?_append_right (by rw [dD_len]; omega), dD_len]; simp
      rw [e, if_neg (by omega), dB_neg]
      · omega
      · intro a ha
        obtain ⟨h1, h2⟩ := into_mem ha
        have h3 := timP_arc h h1
        exact ih _ (by omega)
theorem gget_getD {xs : List Int} {i : Int} (h0 : 0 ≤ i) (h1 : i < (xs.length : Int)) : gget 0 xs i = some (xs.getD i.toNat 0) := gget_some h0 h1
def dM (N : Nat) (D : List Int) (b : Int) : List Int := D ++ b :: List.replicate (N - D.length - 1) 0
theorem dM_len {N : Nat} {D : List Int} (h : D.length < N) (b : Int) : (dM N D b).length = N := by unfold dM; simp; omega
theorem dM_at {N : Nat} {D : List Int} (h : D.length < N) (b : Int) : gget 0 (dM N D b) (D.length : Int) = some b := by
  rw [gget_nat (by rw [dM_len h]; exact h)]
  simp [dM]
theorem dM_lo {N : Nat} {D : List Int} (h : D.length < N) (b : Int) {i : Int} (h0 : 0 ≤ i) (h1 : i < (D.length : Int)) : gget 0 (dM N D b) i = some (D.getD i.toNat 0) := by
  rw [gget_getD h0 (by rw [dM_len h]; omega)]
  unfold dM
  rw [List.getD, List.getD, List.getElem?_append_left (by omega)]
theorem dM_set {N : Nat} {D : List Int} (b c : Int) : gset (dM N D b) (D.length : Int) c = dM N D c := by
  rw [gset_nat]
  unfold dM
  rw [List.set_append_right _ _ (Nat.le_refl _)]
  simp
theorem dM_fst {N : Nat} {D : List Int} (h : D.length < N) : D ++ List.replicate (N - D.length) 0 = dM N D 0 := by
  unfold dM
  obtain ⟨m, hm⟩ : ∃ m, N - D.length = m + 1 := ⟨N - D.length - 1, by omega⟩
  rw [hm, List.replicate_succ]; simp
theorem dM_nxt {N : Nat} {D : List Int} (h : D.length < N) (b : Int) : dM N D b = (D ++ [b]) ++ List.replicate (N - (D ++ [b]).length) 0 := by
  unfold dM
  simp only [List.length_append, List.length_cons, List.length_nil, List.append_assoc, List.cons_append, List.nil_append]
  congr 3
theorem delays_impl (g : TG) (h : timP g = true) (src : Int) (lng : Bool) : impl_delaysFrom (tab g.1.toNat g.2, (src, lng)) = some (dD g.2 src lng g.1.toNat) := by
  obtain ⟨hn, hl⟩ := timP_len h
  obtain ⟨N, hN⟩ : ∃ N : Nat, g.1 = (N : Int) := ⟨g.1.toNat, by omega⟩
  unfold impl_delaysFrom
  dsimp only
  rw [hN, Int.toNat_natCast, tab_len, gmake_nat (by omega) (by omega)]
  simp only [Option.bind_some, List.length_replicate]
  have e0 : ((0 : Int), List.replicate N (0 : Int)) = (fun n : Nat => ((n : Int), dD g.2 src lng n ++ List.replicate (N - (dD g.2 src lng n).length) 0)) 0 := by simp [dD]
  rw [e0]
  refine loop_upto N (fun n => ((n : Int), dD g.2 src lng n ++ List.replicate (N - (dD g.2 src lng n).length) 0)) (fun n hn1 => ?_) ?_
  · have hD := dD_len g.2 src lng n
    have hDN : (dD g.2 src lng n).length < N := by omega
    have hil := into_len g.2 n
    have hcast : ((dD g.2 src lng n).length : Int) = (n : Int) := by rw [hD]
    dsimp only
    rw [dt (by omega), cond_true, dM_fst hDN, dM_len hDN, gin_nat hn1]
    have hat : ∀ b, gget 0 (dM N (dD g.2 src lng n) b) (n : Int) = some b := fun b => by rw [← hcast]; exact dM_at hDN b
    have hst : ∀ b c, gset (dM N (dD g.2 src lng n) b) (n : Int) c = dM N (dD g.2 src lng n) c := fun b c => by rw [← hcast]; exact dM_set b c
    rw [hat]
    simp only [Option.bind_some]
    rw [hst, wrap_ok (z := (n : Int) + 1) (by omega)]
    by_cases q : (n : Int) = src
    · have hneg := dD_neg h src lng n (by omega)
      have hb : dB lng (dD g.2 src lng n) 0 (into g.2 n) (into g.2 n).length = 0 := dB_neg _ _ _ _ (fun a ha => by
        obtain ⟨m1, m2⟩ := into_mem ha
        have m3 := timP_arc h m1
        exact hneg _ (by omega)) _
      rw [dt q, cond_true, dM_len hDN, gin_nat hn1, hat]
      simp only [Option.bind_some]
      rw [hst, dM_nxt hDN]
      have e1 : dD g.2 src lng (n + 1) = dD g.2 src lng n ++ [0] := by
        show dD g.2 src lng n ++ [dB lng (dD g.2 src lng n) (if (n : Int) = src then 0 else -1) (into g.2 n) (into g.2 n).length] = _
        rw [if_pos q, hb]
      rw [e1]; rfl
    · rw [df q, cond_false, tab_get _ hn1]
      simp only [Option.bind_some]
      have e1 : dD g.2 src lng (n + 1) = dD g.2 src lng n ++ [dB lng (dD g.2 src lng n) (-1) (into g.2 n) (into g.2 n).length] := by
        show dD g.2 src lng n ++ [dB lng (dD g.2 src lng n) (if (n : Int) = src then 0 else -1) (into g.2 n) (into g.2 n).length] = _
        rw [if_neg q]
      rw [e1, ← dM_nxt hDN]
      refine loop_upto (into g.2 n).length (fun j => ((j : Int), dM N (dD g.2 src lng n) (dB lng (dD g.2 src lng n) (-1) (into g.2 n) j))) (fun j hj => ?_) ?_
      · obtain ⟨m1, m2⟩ := into_mem (List.getElem_mem hj)
        have m3 := timP_arc h m1
        dsimp only
        rw [dt (by omega), cond_true, gget_nat hj]
        simp only [Option.bind_some]
        rw [dM_len hDN, gin_some m3.1.1 (by omega), dM_lo hDN _ m3.1.1 (by omega), dB_succ _ _ _ _ _ hj, wrap_ok (z := (j : Int) + 1) (by omega), gin_nat hn1, hat]
        simp only [Option.bind_some]
        unfold dS
        generalize (dD g.2 src lng n).getD ((into g.2 n)[j].1).toNat 0 = x
        by_cases q1 : x < 0
        · rw [dt q1, if_pos q1]; rfl
        rw [df q1, if_neg q1, cond_false]
        generalize wrap .i64 (x + (into g.2 n)[j].2.2) = y
        generalize dB lng (dD g.2 src lng n) (-1) (into g.2 n) j = b at *
        by_cases q2 : b < 0
        · rw [dt q2, if_pos q2, hst]; rfl
        rw [df q2, if_neg q2, cond_false]
        cases lng
        · by_cases q3 : y < b
          · rw [dt q3, if_pos q3, hst]; rfl
          · rw [df q3, if_neg q3]; rfl
        · by_cases q3 : b < y
          · rw [dt q3, if_pos q3, hst]; rfl
          · rw [df q3, if_neg q3]; rfl
      · dsimp only
        rw [df (by omega), cond_false]; rfl
  · dsimp only
    rw [df (by omega), cond_false]
    have : N - (dD g.2 src lng N).length = 0 := by rw [dD_len]; omega
    rw [this]; simp
def delP (g : TG) (v : Int) (lng : Bool) : List Int := if timP g = true ∧ 0 ≤ v ∧ v < g.1 then dD g.2 v lng g.1.toNat else []
theorem long_impl (g : TG) (v : Int) : impl_LongestDelays (g, v) = some (delP g v true) := by
  unfold impl_LongestDelays delP
  dsimp only
  rw [tim_impl]
  simp only [Option.bind_some]
  by_cases h : timP g = true
  · have hn := (timP_len h).1
    rw [h, wrap_ok (by omega), inR_impl]
    simp only [Option.bind_some, Bool.not_true, cond_false, true_and]
    by_cases q : 0 ≤ v ∧ v < g.1
    · rw [dt (by omega), if_pos q, arcs_impl g h]
      simp only [Option.bind_some, Bool.not_true, cond_false]
      rw [delays_impl g h]; rfl
    · rw [df (by omega), if_neg q]; rfl
  · rw [if_neg (fun e => h e.1)]
    rw [Bool.not_eq_true] at h
    rw [h]; rfl
theorem short_impl (g : TG) (v : Int) : impl_ShortestDelays (g, v) = some (delP g v false) := by
  unfold impl_ShortestDelays delP
  dsimp only
  rw [tim_impl]
  simp only [Option.bind_some]
  by_cases h : timP g = true
  · have hn := (timP_len h).1
    rw [h, wrap_ok (by omega), inR_impl]
    simp only [Option.bind_some, Bool.not_true, cond_false, true_and]
    by_cases q : 0 ≤ v ∧ v < g.1
    · rw [dt (by omega), if_pos q, arcs_impl g h]
      simp only [Option.bind_some, Bool.not_true, cond_false]
      rw [delays_impl g h]; rfl
    · rw [df (by omega), if_neg q]; rfl
  · rw [if_neg (fun e => h e.1)]
    rw [Bool.not_eq_true] at h
    rw [h]; rfl
end Go.Pf

