/-
  Own work. Critical paths, plainly.
-/
import Derived.Test.YtnllpdmiijbehaaDly
namespace Go.Pf
open Go Go.Pu
set_option linter.unusedVariables false

/-- The last value is the first, or some arc attains it. -/
theorem dB_attain (D : List Int) (b : Int) (l : List Arc) (j : Nat) : dB true D b l j = b ∨ ∃ a ∈ l, 0 ≤ D.getD a.1.toNat 0 ∧ dB true D b l j = wrap .i64 (D.getD a.1.toNat 0 + a.2.2) := by
  induction j with
  | zero => left; rfl
  | succ j ih =>
    by_cases h : j < l.length
    · rw [dB_succ _ _ _ _ _ h]
      unfold dS
      by_cases q1 : D.getD (l[j].1).toNat 0 < 0
      · rw [if_pos q1]; exact ih
      rw [if_neg q1]
      by_cases q2 : dB true D b l j < 0
      · rw [if_pos q2]; exact Or.inr ⟨_, List.getElem_mem h, by omega, rfl⟩
      rw [if_neg q2, cond_true]
      split
      · exact Or.inr ⟨_, List.getElem_mem h, by omega, rfl⟩
      · exact ih
    · have e : dB true D b l (j + 1) = dB true D b l j := by
        unfold dB; rw [List.take_of_length_le (by omega), List.take_of_length_le (by omega)]
      rw [e]; exact ih
theorem dD_at (as : List Arc) (src : Int) (lng : Bool) (i : Nat) : ∀ n, i < n → (dD as src lng n).getD i 0 = dB lng (dD as src lng i) (if (i : Int) = src then 0 else -1) (into as i) (into as i).length := by
  intro n
  induction n with
  | zero => intro h; omega
  | succ n ih =>
    intro h
    show (dD as src lng n ++ [dB lng (dD as src lng n) (if (n : Int) = src then 0 else -1) (into as n) (into as n).length]).getD i 0 = _
    by_cases hin : i < n
    · rw [getD_app (by rw [dD_len]; exact hin)]; exact ih hin
    · have : i = n := by omega
      subst this
      rw [List.getD, List.getElem?_append_right (by rw [dD_len]; omega), dD_len]; simp
theorem dD_pre (as : List Arc) (src : Int) (lng : Bool) {i n m : Nat} (h1 : i < n) (h2 : i < m) : (dD as src lng n).getD i 0 = (dD as src lng m).getD i 0 := by
  rw [dD_at as src lng i n h1, dD_at as src lng i m h2]
/-- A node that is reached and is not the source has an arc that attains its delay. -/
theorem crit_ex {g : TG} (h : timP g = true) (src : Int) (N i : Nat) (hi : i < N) (hs : (i : Int) ≠ src) (h0 : 0 ≤ (dD g.2 src true N).getD i 0) :
    ∃ a ∈ into g.2 i, 0 ≤ (dD g.2 src true N).getD a.1.toNat 0 ∧ wrap .i64 ((dD g.2 src true N).getD a.1.toNat 0 + a.2.2) = (dD g.2 src true N).getD i 0 := by
  have e := dD_at g.2 src true i N hi
  rw [if_neg hs] at e
  rcases dB_attain (dD g.2 src true i) (-1) (into g.2 i) (into g.2 i).length with c | ⟨a, ha, a0, c⟩
  · rw [c] at e; omega
  · obtain ⟨m1, m2⟩ := into_mem ha
    have m3 := timP_arc h m1
    have e2 := dD_pre g.2 src true (i := a.1.toNat) (n := i) (m := N) (by omega) (by omega)
    refine ⟨a, ha, by rw [← e2]; exact a0, ?_⟩
    rw [← e2, e, c]

def prC (D : List Int) (i : Nat) (a : Arc) : Prop := 0 ≤ D.getD a.1.toNat 0 ∧ wrap .i64 (D.getD a.1.toNat 0 + a.2.2) = D.getD i 0
instance (D : List Int) (i : Nat) (a : Arc) : Decidable (prC D i a) := by unfold prC; exact inferInstance
def prS (D : List Int) (i : Nat) (m : Int) (a : Arc) : Int := if prC D i a then (if m < 0 then a.1 else if a.1 < m then a.1 else m) else m
def prT (D : List Int) (i : Nat) (l : List Arc) : Int := l.foldl (prS D i) (-1)
theorem prT_app (D : List Int) (i : Nat) (l : List Arc) (a : Arc) : prT D i (l ++ [a]) = prS D i (prT D i l) a := by
  unfold prT; rw [List.foldl_append]; rfl
theorem prT_cases {g : TG} (h : timP g = true) (D : List Int) (i : Nat) (l : List Arc) (hl : ∀ a ∈ l, a ∈ g.2 ∧ a.2.1 = (i : Int)) : prT D i l = -1 ∨ ((0 ≤ prT D i l ∧ prT D i l < i) ∧ 0 ≤ D.getD (prT D i l).toNat 0) := by
  unfold prT
  have key : ∀ (l : List Arc) (m : Int), (∀ a ∈ l, a ∈ g.2 ∧ a.2.1 = (i : Int)) → (m = -1 ∨ ((0 ≤ m ∧ m < i) ∧ 0 ≤ D.getD m.toNat 0)) → (l.foldl (prS D i) m = -1 ∨ ((0 ≤ l.foldl (prS D i) m ∧ l.foldl (prS D i) m < i) ∧ 0 ≤ D.getD (l.foldl (prS D i) m).toNat 0)) := by
    intro l
    induction l with
    | nil => intro m _ hm; exact hm
    | cons a r ih =>
      intro m hl hm
      rw [List.foldl_cons]
      refine ih _ (fun x hx => hl x (List.mem_cons_of_mem _ hx)) ?_
      obtain ⟨a1, a2⟩ := hl a (List.mem_cons_self)
      have a3 := timP_arc h a1
      unfold prS
      by_cases q : prC D i a
      · rw [if_pos q]
        split
        · exact Or.inr ⟨by omega, q.1⟩
        · split
          · exact Or.inr ⟨by omega, q.1⟩
          · exact hm
      · rw [if_neg q]; exact hm
  exact key l (-1) hl (Or.inl rfl)
theorem prT_ex (D : List Int) (i : Nat) (l : List Arc) (hp : ∀ a ∈ l, 0 ≤ a.1) (h : ∃ a ∈ l, prC D i a) : 0 ≤ prT D i l := by
  unfold prT
  have keep : ∀ (l : List Arc) (m : Int), (∀ a ∈ l, 0 ≤ a.1) → 0 ≤ m → 0 ≤ l.foldl (prS D i) m := by
    intro l
    induction l with
    | nil => intro m _ hm; exact hm
    | cons a r ih =>
      intro m hl hm
      rw [List.foldl_cons]
      refine ih _ (fun x hx => hl x (List.mem_cons_of_mem _ hx)) ?_
      have a3 := hl a (List.mem_cons_self)
      unfold prS
      split
      · split
        · exact a3
        · split <;> assumption
      · exact hm
  have key : ∀ (l : List Arc) (m : Int), (∀ a ∈ l, 0 ≤ a.1) → (∃ a ∈ l, prC D i a) → 0 ≤ l.foldl (prS D i) m := by
    intro l
    induction l with
    | nil => intro m _ ⟨a, ha, _⟩; cases ha
    | cons a r ih =>
      intro m hl ⟨x, hx, hc⟩
      rw [List.foldl_cons]
      by_cases q : prC D i a
      · refine keep r _ (fun x hx => hl x (List.mem_cons_of_mem _ hx)) ?_
        have a3 := hl a (List.mem_cons_self)
        unfold prS
        rw [if_pos q]
        split
        · exact a3
        · split
          · exact a3
          · omega
      · refine ih _ (fun x hx => hl x (List.mem_cons_of_mem _ hx)) ⟨x, ?_, hc⟩
        rcases List.mem_cons.1 hx with e | e
        · subst e; exact absurd hc q
        · exact e
  exact key l (-1) hp h
/-- The node ahead of a node on the critical path. -/
def prv (g : TG) (D : List Int) (i : Int) : Int := prT D i.toNat (into g.2 i.toNat)
def chn (g : TG) (D : List Int) (t : Int) : Nat → Int
  | 0 => t
  | k + 1 => prv g D (chn g D t k)
theorem chn_shift (g : TG) (D : List Int) (t : Int) (k : Nat) : chn g D (prv g D t) k = chn g D t (k + 1) := by
  induction k with
  | zero => rfl
  | succ k ih => show prv g D _ = prv g D _; rw [ih]
theorem chn_ok {g : TG} (h : timP g = true) (src : Int) : ∀ (m : Nat) (t : Int), 0 ≤ t → t < m → t < g.1 → 0 ≤ (dD g.2 src true g.1.toNat).getD t.toNat 0 →
    ∃ n, n ≤ t.toNat ∧ chn g (dD g.2 src true g.1.toNat) t n = src ∧ ∀ k, k < n → chn g (dD g.2 src true g.1.toNat) t k ≠ src ∧ (0 ≤ chn g (dD g.2 src true g.1.toNat) t k ∧ chn g (dD g.2 src true g.1.toNat) t k < g.1) ∧ 0 ≤ chn g (dD g.2 src true g.1.toNat) t (k + 1) := by
  intro m
  induction m with
  | zero => intro t h0 h1; omega
  | succ m ih =>
    intro t h0 h1 h2 h3
    by_cases hs : t = src
    · exact ⟨0, by omega, hs, fun k hk => by omega⟩
    · obtain ⟨i, rfl⟩ : ∃ i : Nat, t = (i : Int) := ⟨t.toNat, by omega⟩
      rw [Int.toNat_natCast] at h3
      have hx := crit_ex h src g.1.toNat i (by omega) hs h3
      have hin : ∀ a ∈ into g.2 i, a ∈ g.2 ∧ a.2.1 = (i : Int) := fun a ha => into_mem ha
      have hp := prT_ex (dD g.2 src true g.1.toNat) i (into g.2 i) (fun a ha => (timP_arc h (hin a ha).1).1.1) hx
      rcases prT_cases h (dD g.2 src true g.1.toNat) i (into g.2 i) hin with c | ⟨⟨c1, c2⟩, c3⟩
      · omega
      · have e : prv g (dD g.2 src true g.1.toNat) (i : Int) = prT (dD g.2 src true g.1.toNat) i (into g.2 i) := rfl
        rw [← e] at c1 c2 c3
        obtain ⟨n, n1, n2, n3⟩ := ih (prv g (dD g.2 src true g.1.toNat) (i : Int)) c1 (by omega) (by omega) c3
        refine ⟨n + 1, by omega, by rw [← chn_shift]; exact n2, fun k hk => ?_⟩
        cases k with
        | zero => exact ⟨hs, ⟨by show 0 ≤ (i : Int); omega, h2⟩, c1⟩
        | succ k =>
          have := n3 k (by omega)
          rw [chn_shift, chn_shift] at this
          exact this
theorem prv_impl {g : TG} (h : timP g = true) (D : List Int) (hD : D.length = g.1.toNat) (i : Nat) (hi : (i : Int) < g.1) {ω : Type} (k : Int → Option ω) {o : ω} (hk : k (prv g D (i : Int)) = some o) :
    Pu.loop (fun (v20 : (Int × Int)) =>
        bif decide (v20.2 < ((into g.2 i).length : Int)) then (
          (gget (0, (0, 0)) (into g.2 i) v20.2).bind fun v22 =>
          (gin (D).length v22.1).bind fun _ =>
          (gget 0 D v22.1).bind fun v24 =>
          bif decide (0 ≤ v24) then (
            (gin (D).length v22.1).bind fun _ =>
            (gget 0 D v22.1).bind fun v27 =>
            (gin (D).length (i : Int)).bind fun _ =>
            (gget 0 D (i : Int)).bind fun v30 =>
            bif decide (wrap .i64 (v27 + v22.2.2) = v30) then (
              bif decide (v20.1 < 0) then (
                some (.inl (v22.1, wrap .i64 (v20.2 + 1)))) else
              bif decide (v22.1 < v20.1) then (
                some (.inl (v22.1, wrap .i64 (v20.2 + 1)))) else
              some (.inl (v20.1, wrap .i64 (v20.2 + 1)))) else
            some (.inl (v20.1, wrap .i64 (v20.2 + 1)))) else
          some (.inl (v20.1, wrap .i64 (v20.2 + 1)))) else
        Option.map Sum.inr (k v20.1)) ((-1), 0) = some o := by
  have hl := (timP_len h).2
  have hn := (timP_len h).1
  have hil := into_len g.2 i
  refine loop_upto (into g.2 i).length (fun j => (prT D i ((into g.2 i).take j), (j : Int))) (fun j hj => ?_) ?_
  · obtain ⟨m1, m2⟩ := into_mem (List.getElem_mem hj)
    have m3 := timP_arc h m1
    dsimp only
    rw [dt (by omega), cond_true, gget_nat hj]
    simp only [Option.bind_some]
    rw [gin_some m3.1.1 (by omega), gget_getD m3.1.1 (by omega), gin_nat (by omega), gget_getD (i := (i : Int)) (by omega) (by omega), take_succ' _ j hj, prT_app, wrap_ok (z := (j : Int) + 1) (by omega)]
    simp only [Option.bind_some, Int.toNat_natCast]
    unfold prS
    by_cases q1 : 0 ≤ D.getD ((into g.2 i)[j].1).toNat 0
    · rw [dt q1, cond_true]
      by_cases q2 : wrap .i64 (D.getD ((into g.2 i)[j].1).toNat 0 + (into g.2 i)[j].2.2) = D.getD i 0
      · rw [dt q2, cond_true, if_pos (show prC D i (into g.2 i)[j] from ⟨q1, q2⟩)]
        by_cases q3 : prT D i ((into g.2 i).take j) < 0
        · rw [dt q3, if_pos q3]; rfl
        rw [df q3, if_neg q3, cond_false]
        by_cases q4 : (into g.2 i)[j].1 < prT D i ((into g.2 i).take j)
        · rw [dt q4, if_pos q4]; rfl
        · rw [df q4, if_neg q4]; rfl
      · rw [df q2, if_neg (show ¬ prC D i (into g.2 i)[j] from fun e => q2 e.2)]; rfl
    · rw [df q1, if_neg (show ¬ prC D i (into g.2 i)[j] from fun e => q1 e.1)]; rfl
  · dsimp only
    rw [df (by omega), cond_false, List.take_length]
    have e : prT D i (into g.2 i) = prv g D (i : Int) := rfl
    rw [e, hk]; rfl

/-- The reference's choice over all arcs: the node itself stands for 'none yet'. -/
def mk (D : List Int) (i : Nat) (l : List Arc) : Int := if prT D i l < 0 then (i : Int) else prT D i l
theorem prv_spec {g : TG} (h : timP g = true) (D : List Int) (hD : D.length = g.1.toNat) (i : Nat) (hi : (i : Int) < g.1) (hp : 0 ≤ prv g D (i : Int)) {ω : Type} (k : Int → Option ω) {o : ω} (hk : k (prv g D (i : Int)) = some o) :
    Pu.loop (fun (v20 : (Int × Int)) =>
      bif decide (v20.2 < (g.2.length : Int)) then (
        (gget (0, (0, 0)) g.2 v20.2).bind fun v23 =>
        bif decide (v23.2.1 = (i : Int)) then (
          (gin (D).length v23.1).bind fun _ =>
          (gget 0 D v23.1).bind fun v26 =>
          bif decide (0 ≤ v26) then (
            (gin (D).length v23.1).bind fun _ =>
            (gget 0 D v23.1).bind fun v29 =>
            (gin (D).length (i : Int)).bind fun _ =>
            (gget 0 D (i : Int)).bind fun v32 =>
            bif decide (wrap .i64 (v29 + v23.2.2) = v32) then (
              bif decide (v20.1 = (i : Int)) then (
                some (.inl (v23.1, wrap .i64 (v20.2 + 1)))) else
              bif decide (v23.1 < v20.1) then (
                some (.inl (v23.1, wrap .i64 (v20.2 + 1)))) else
              some (.inl (v20.1, wrap .i64 (v20.2 + 1)))) else
            some (.inl (v20.1, wrap .i64 (v20.2 + 1)))) else
          some (.inl (v20.1, wrap .i64 (v20.2 + 1)))) else
        some (.inl (v20.1, wrap .i64 (v20.2 + 1)))) else
      Option.map Sum.inr (k v20.1)) ((i : Int), 0) = some o := by
  have hl := (timP_len h).2
  have hn := (timP_len h).1
  have e0 : ((i : Int), (0 : Int)) = (fun j : Nat => (mk D i (into (g.2.take j) i), (j : Int))) 0 := rfl
  rw [e0]
  refine loop_upto g.2.length (fun j => (mk D i (into (g.2.take j) i), (j : Int))) (fun j hj => ?_) ?_
  · have m3 := timP_arc h (List.getElem_mem hj)
    have hc := prT_cases h D i (into (g.2.take j) i) (fun a ha => ⟨List.mem_of_mem_take (into_mem ha).1, (into_mem ha).2⟩)
    dsimp only
    rw [dt (by omega), cond_true, gget_nat hj]
    simp only [Option.bind_some]
    rw [take_succ' _ j hj, into_app, wrap_ok (z := (j : Int) + 1) (by omega)]
    by_cases q0 : (g.2[j]).2.1 = (i : Int)
    · rw [dt q0, if_pos q0, cond_true, gin_some m3.1.1 (by omega), gget_getD m3.1.1 (by omega), gin_nat (by omega), gget_getD (i := (i : Int)) (by omega) (by omega)]
      simp only [Option.bind_some, Int.toNat_natCast]
      unfold mk
      rw [prT_app]
      unfold prS
      by_cases q1 : 0 ≤ D.getD ((g.2[j]).1).toNat 0
      · rw [dt q1, cond_true]
        by_cases q2 : wrap .i64 (D.getD ((g.2[j]).1).toNat 0 + (g.2[j]).2.2) = D.getD i 0
        · rw [dt q2, cond_true, if_pos (show prC D i g.2[j] from ⟨q1, q2⟩)]
          by_cases q3 : prT D i (into (g.2.take j) i) < 0
          · rw [if_pos q3, if_pos q3, dt rfl, cond_true, if_neg (by omega)]; rfl
          rw [if_neg q3, if_neg q3, df (by omega), cond_false]
          by_cases q4 : (g.2[j]).1 < prT D i (into (g.2.take j) i)
          · rw [dt q4, if_pos q4, if_neg (by omega)]; rfl
          · rw [df q4, if_neg q4, if_neg q3]; rfl
        · rw [df q2, if_neg (show ¬ prC D i g.2[j] from fun e => q2 e.2)]; rfl
      · rw [df q1, if_neg (show ¬ prC D i g.2[j] from fun e => q1 e.1)]; rfl
    · rw [df q0, if_neg q0]; rfl
  · dsimp only
    rw [df (by omega), cond_false, List.take_length]
    have e : mk D i (into g.2 i) = prv g D (i : Int) := by
      have e1 : prT D i (into g.2 i) = prv g D (i : Int) := rfl
      unfold mk
      rw [e1, if_neg (by omega)]
    rw [e, hk]; rfl
end Go.Pf
