/-
  Own work. Routes' use of nodes, plainly.
-/
import Derived.Test.YtjpkedhcbnklmaaDve
import Derived.Test.YtjpkedhcbnklmaaHlp
import Derived.Test.YtjpkedhcbnklmaaPla
namespace Go.Pf
open Go Go.Pu
set_option linter.unusedVariables false

abbrev Rt := List Int × List Int
def RtOk (r : Rt) : Prop := r.1.length ≤ 1048576 ∧ r.2.length ≤ 1048576
theorem szlistB {α : Type} (d0 : α) (szf : α × Int → Option Int) (P : Int → α → Prop) (mono : ∀ b c x, b ≤ c → P b x → P c x) (xs : List α) (hl : xs.length ≤ 9223372036854775807) (h : ∀ x ∈ xs, ∀ b : Int, 0 ≤ b → b ≤ 1048576 → szf (x, b) = some (-1) ∨ (P b x ∧ ∃ z, 0 ≤ z ∧ z ≤ b ∧ szf (x, b) = some z)) : ∀ b : Int, 0 ≤ b → b ≤ 1048576 →
    (let v1 : Int := ((xs).length : Int)
    let v2 : Int := wrap .i64 (b - v1)
    let v3 : Bool := decide (v2 < 0)
    bif v3 then (
      some (-1)) else
    Pu.loop (fun (v4 : (Int × Int)) =>
      let v5 : Int := ((xs).length : Int)
      let v6 : Bool := decide (v4.2 < v5)
      bif v6 then (
        (gget d0 xs v4.2).bind fun v7 =>
        (szf (v7, v4.1)).bind fun v8 =>
        let v9 : Bool := decide (v8 < 0)
        bif v9 then (
          Option.map Sum.inr (
            some (-1))) else
        let v10 : Int := wrap .i64 (v4.2 + 1)
        some (.inl (v8, v10))) else
      Option.map Sum.inr (
        some v4.1)) (v2, 0)) = some (-1) ∨ ((xs.length ≤ 1048576 ∧ ∀ x ∈ xs, P (b - xs.length) x) ∧ ∃ z, 0 ≤ z ∧ z ≤ b ∧ (let v1 : Int := ((xs).length : Int)
    let v2 : Int := wrap .i64 (b - v1)
    let v3 : Bool := decide (v2 < 0)
    bif v3 then (
      some (-1)) else
    Pu.loop (fun (v4 : (Int × Int)) =>
      let v5 : Int := ((xs).length : Int)
      let v6 : Bool := decide (v4.2 < v5)
      bif v6 then (
        (gget d0 xs v4.2).bind fun v7 =>
        (szf (v7, v4.1)).bind fun v8 =>
        let v9 : Bool := decide (v8 < 0)
        bif v9 then (
          Option.map Sum.inr (
            some (-1))) else
        let v10 : Int := wrap .i64 (v4.2 + 1)
        some (.inl (v8, v10))) else
      Option.map Sum.inr (
        some v4.1)) (v2, 0)) = some z) := by
  intro b b0 b1
  dsimp only
  rw [wrap_ok (by omega)]
  by_cases hb : b - (xs.length : Int) < 0
  · left; rw [dt hb]; rfl
  · rw [df hb, cond_false]
    obtain ⟨o, h1, h2⟩ := loop_spec (f := fun (v4 : (Int × Int)) =>
      let v5 : Int := ((xs).length : Int)
      let v6 : Bool := decide (v4.2 < v5)
      bif v6 then (
        (gget d0 xs v4.2).bind fun v7 =>
        (szf (v7, v4.1)).bind fun v8 =>
        let v9 : Bool := decide (v8 < 0)
        bif v9 then (
          Option.map Sum.inr (
            some (-1))) else
        let v10 : Int := wrap .i64 (v4.2 + 1)
        some (.inl (v8, v10))) else
      Option.map Sum.inr (
        some v4.1)) (fun s => 0 ≤ s.2 ∧ s.2 ≤ xs.length ∧ 0 ≤ s.1 ∧ s.1 ≤ b - xs.length ∧ ∀ j : Nat, (j : Int) < s.2 → ∀ q : j < xs.length, P (b - xs.length) xs[j]) (fun o => o = -1 ∨ (0 ≤ o ∧ o ≤ b ∧ ∀ x ∈ xs, P (b - xs.length) x)) (fun s => (xs.length - s.2).toNat) (fun s hs => by
        obtain ⟨c, i⟩ := s
        obtain ⟨i0, i1, c0, c1, hP⟩ := hs
        simp only at i0 i1 c0 c1 hP
        by_cases hi : i < (xs.length : Int)
        · obtain ⟨k, rfl⟩ : ∃ k : Nat, i = (k : Int) := ⟨i.toNat, by omega⟩
          have hk : k < xs.length := by omega
          dsimp only
          rw [dt hi, cond_true, gget_nat hk]
          simp only [Option.bind_some]
          rcases h _ (List.getElem_mem hk) c c0 (by omega) with e | ⟨p, z, z0, z1, e⟩
          · right; rw [e]; exact ⟨-1, rfl, Or.inl rfl⟩
          · left
            rw [e]
            simp only [Option.bind_some]
            rw [df (by omega), cond_false, wrap_ok (by omega)]
            refine ⟨_, rfl, ⟨by simp only; omega, by simp only; omega, z0, by simp only; omega, fun j hj q => ?_⟩, by simp only; omega⟩
            by_cases hjk : j = k
            · subst hjk; exact mono _ _ _ (by omega) p
            · exact hP j (by simp only at hj; omega) q
        · right
          dsimp only
          rw [df hi, cond_false]
          refine ⟨c, rfl, Or.inr ⟨c0, by omega, fun x hx => ?_⟩⟩
          obtain ⟨j, hj, rfl⟩ := List.getElem_of_mem hx
          exact hP j (by omega) hj) (b - (xs.length : Int), 0) ⟨by simp, by simp, by simp only; omega, by simp only; omega, fun j hj q => by simp at hj; omega⟩
    rcases h2 with h2 | ⟨o0, o1, h2⟩
    · left; rw [h1, h2]
    · right
      exact ⟨⟨by omega, h2⟩, o, o0, o1, h1⟩

def RtB (b : Int) (r : Rt) : Prop := (r.1.length : Int) + (r.2.length : Int) ≤ b
def RtsOk (rs : List Rt) : Prop := rs.length ≤ 1048576 ∧ ∀ r ∈ rs, RtOk r
def RtsB (rs : List Rt) : Prop := rs.length ≤ 1048576 ∧ ∀ r ∈ rs, RtB (1048576 - rs.length) r
theorem RtsB.ok {rs : List Rt} (h : RtsB rs) : RtsOk rs := ⟨h.1, fun r hr => by
  have := h.2 r hr
  unfold RtB at this
  exact ⟨by omega, by omega⟩⟩
theorem eqRtS_refl (rs : List Rt) (h : RtsOk rs) : laws_eqRouteS (rs, rs) = some true := eqL_refl ([], []) laws_eqRoute rs (by have := h.1; omega) (fun r hr => by
  have e := eqRoute_ok r.1 r.2 r.1 r.2 (h.2 r hr).1 (h.2 r hr).2
  simp only [and_self, decide_true] at e
  exact e)
theorem mget_mset (m : List (Int × Bool)) (k : Int) (b : Bool) (x : Int) : mget (mset m k b) x = if x = k then b else mget m x := by
  induction m with
  | nil =>
    unfold mset mget
    by_cases h : x = k
    · subst h; simp
    · rw [if_neg h]
      have : (k == x) = false := by simp; omega
      simp [this]
  | cons e m ih =>
    unfold mset
    by_cases hk : k = e.1
    · rw [if_pos (by simpa using hk)]
      by_cases h : x = k
      · subst h; simp [mget]
      · rw [if_neg h]
        have h1 : (k == x) = false := by simp; omega
        have h2 : (e.1 == x) = false := by simp; omega
        simp [mget, h1, h2]
    · rw [if_neg (by simpa using hk)]
      by_cases he : e.1 = x
      · rw [if_neg (by omega)]
        have h2 : (e.1 == x) = true := by simp; exact he
        simp [mget, h2]
      · have h2 : (e.1 == x) = false := by simp; exact he
        have e1 : mget (e :: mset m k b) x = mget (mset m k b) x := by simp [mget, h2]
        have e2 : mget (e :: m) x = mget m x := by simp [mget, h2]
        rw [e1, e2]; exact ih

def nsAt (ns : List Int) (j : Nat) : Int := ns.getD j 0
def inN (N : Nat) (x : Int) : Prop := 0 ≤ x ∧ x < (N : Int)
instance (N : Nat) (x : Int) : Decidable (inN N x) := by unfold inN; exact inferInstance
def cnT (N : Nat) (ns : List Int) (c0 : List Int) : Nat → List Int
  | 0 => c0
  | j + 1 => if inN N (nsAt ns j) ∧ nsAt ns j ∉ ns.take j then gset (cnT N ns c0 j) (nsAt ns j) (wrap .i64 ((cnT N ns c0 j).getD (nsAt ns j).toNat 0 + 1)) else cnT N ns c0 j
theorem cnT_len (N : Nat) (ns : List Int) (c0 : List Int) (j : Nat) : (cnT N ns c0 j).length = c0.length := by
  induction j with
  | zero => rfl
  | succ j ih =>
    unfold cnT
    split
    · unfold gset; rw [List.length_set]; exact ih
    · exact ih
def mpT (N : Nat) (ns : List Int) : Nat → List (Int × Bool)
  | 0 => []
  | j + 1 => if inN N (nsAt ns j) ∧ nsAt ns j ∉ ns.take j then mset (mpT N ns j) (nsAt ns j) true else mpT N ns j
theorem take_at {ns : List Int} {j : Nat} (h : j < ns.length) : ns.take (j + 1) = ns.take j ++ [nsAt ns j] := by
  rw [take_succ' ns j h]
  unfold nsAt
  rw [List.getD, List.getElem?_eq_getElem h]; rfl
theorem mpT_get (N : Nat) (ns : List Int) (x : Int) (j : Nat) : j ≤ ns.length → mget (mpT N ns j) x = decide (inN N x ∧ x ∈ ns.take j) := by
  induction j with
  | zero => intro _; simp [mpT, mget]
  | succ j ih =>
    intro hj
    have ih := ih (by omega)
    rw [take_at (by omega)]
    unfold mpT
    by_cases q : inN N (nsAt ns j) ∧ nsAt ns j ∉ ns.take j
    · rw [if_pos q, mget_mset, ih]
      by_cases hx : x = nsAt ns j
      · rw [if_pos hx]; subst hx; rw [dt ⟨q.1, by simp⟩]
      · rw [if_neg hx, decide_eq_decide]
        simp [hx]
    · rw [if_neg q, ih, decide_eq_decide]
      constructor
      · exact fun e => ⟨e.1, by simp [e.2]⟩
      · rintro ⟨e1, e2⟩
        refine ⟨e1, ?_⟩
        rcases List.mem_append.1 e2 with e3 | e3
        · exact e3
        · have hx := List.mem_singleton.1 e3
          subst hx
          exact Decidable.byContradiction fun c => q ⟨e1, c⟩
theorem seenA_out (N : Nat) (xs : List Int) (x : Int) (h : ¬ (inN N x ∧ x ∉ xs)) : seenA N (xs ++ [x]) = seenA N xs := by
  unfold seenA
  apply List.map_congr_left
  intro t ht
  have ht := List.mem_range.1 ht
  rw [decide_eq_decide]
  constructor
  · intro e
    rcases List.mem_append.1 e with e3 | e3
    · exact e3
    · have hx := List.mem_singleton.1 e3
      exact Decidable.byContradiction fun c => h ⟨⟨by omega, by omega⟩, by rw [← hx]; exact c⟩
  · exact fun e => List.mem_append_left _ e
def ldT (N : Nat) (rs : List Rt) (skip : Int) : Nat → List Int
  | 0 => List.replicate N 0
  | k + 1 => if (k : Int) = skip then ldT N rs skip k else cnT N (rs.getD k ([], [])).1 (ldT N rs skip k) (rs.getD k ([], [])).1.length
theorem ldT_len (N : Nat) (rs : List Rt) (skip : Int) (k : Nat) : (ldT N rs skip k).length = N := by
  induction k with
  | zero => simp [ldT]
  | succ k ih => unfold ldT; split; exact ih; rw [cnT_len]; exact ih
theorem rs_at {rs : List Rt} {k : Nat} (h : k < rs.length) : rs.getD k ([], []) = rs[k] := by rw [List.getD, List.getElem?_eq_getElem h]; rfl
theorem ns_at {ns : List Int} {j : Nat} (h : j < ns.length) : ns[j] = nsAt ns j := by unfold nsAt; rw [List.getD, List.getElem?_eq_getElem h]; rfl
theorem load_spec (N : Nat) (rs : List Rt) (skip : Int) (hN : N ≤ 1048576) (h : RtsOk rs) : spec_l34Load ((N : Int), (rs, skip)) = some (ldT N rs skip rs.length) := by
  obtain ⟨hl, hr⟩ := h
  unfold spec_l34Load
  dsimp only
  rw [gmake_nat (by omega) (by omega)]
  simp only [Option.bind_some]
  refine loop_upto rs.length (fun k => ((k : Int), ldT N rs skip k)) (fun k hk => ?_) ?_
  · dsimp only
    rw [dt (by omega), cond_true]
    by_cases q : (k : Int) = skip
    · rw [dt q, cond_true, wrap_ok (by omega)]
      have e : ldT N rs skip (k + 1) = ldT N rs skip k := by show (if _ then _ else _) = _; rw [if_pos q]
      rw [e]; rfl
    rw [df q, cond_false, gmake_nat (by omega) (by omega)]
    simp only [Option.bind_some]
    have e : ldT N rs skip (k + 1) = cnT N (rs[k]).1 (ldT N rs skip k) (rs[k]).1.length := by
      show (if _ then _ else _) = _
      rw [if_neg q, rs_at hk]
    rw [e]
    have hrk := (hr _ (List.getElem_mem hk)).1
    generalize hns : (rs[k]).1 = ns at *
    have hc := ldT_len N rs skip k
    generalize ldT N rs skip k = c0 at *
    have e0 : ((0 : Int), (c0, List.replicate N false)) = (fun j : Nat => ((j : Int), (cnT N ns c0 j, seenA N (ns.take j)))) 0 := by
      simp only [List.take_zero]; rw [seenA_nil]; rfl
    rw [e0]
    refine loop_upto ns.length (fun j => ((j : Int), (cnT N ns c0 j, seenA N (ns.take j)))) (fun j hj => ?_) ?_
    · have hcl := cnT_len N ns c0 j
      dsimp only
      rw [gget_nat hk]
      simp only [Option.bind_some]
      rw [hns, dt (by omega), cond_true, gget_nat hj, ns_at hj, take_at hj, wrap_ok (z := (j : Int) + 1) (by omega)]
      simp only [Option.bind_some]
      by_cases q1 : inN N (nsAt ns j) ∧ nsAt ns j ∉ ns.take j
      · obtain ⟨⟨x0, x1⟩, q2⟩ := q1
        have e2 : cnT N ns c0 (j + 1) = gset (cnT N ns c0 j) (nsAt ns j) (wrap .i64 ((cnT N ns c0 j).getD (nsAt ns j).toNat 0 + 1)) := by
          show (if _ then _ else _) = _
          rw [if_pos ⟨⟨x0, x1⟩, q2⟩]
        rw [e2]
        obtain ⟨t, ht⟩ : ∃ t : Nat, nsAt ns j = (t : Int) := ⟨(nsAt ns j).toNat, by omega⟩
        rw [ht] at q2 x0 x1 ⊢
        rw [dt x0, cond_true, dt x1, cond_true, seenA_len, gin_nat (by omega), seenA_get _ _ _ (by omega), df q2]
        simp only [Option.bind_some, Bool.not_false, cond_true]
        rw [gin_nat (by omega), gget_some (by omega) (by omega), seenA_set _ _ _ (by omega)]
        rfl
      · have e2 : cnT N ns c0 (j + 1) = cnT N ns c0 j := by
          show (if _ then _ else _) = _
          rw [if_neg q1]
        rw [e2, seenA_out _ _ _ q1]
        by_cases x0 : 0 ≤ nsAt ns j
        · by_cases x1 : nsAt ns j < (N : Int)
          · have q2 : nsAt ns j ∈ ns.take j := Decidable.byContradiction fun c => q1 ⟨⟨x0, x1⟩, c⟩
            rw [dt x0, cond_true, dt x1, cond_true]
            obtain ⟨t, ht⟩ : ∃ t : Nat, nsAt ns j = (t : Int) := ⟨(nsAt ns j).toNat, by omega⟩
            rw [ht] at q2 x1 ⊢
            rw [seenA_len, gin_nat (by omega), seenA_get _ _ _ (by omega), dt q2]
            rfl
          · rw [dt x0, cond_true, df x1]; rfl
        · rw [df x0]; rfl
    · dsimp only
      rw [gget_nat hk]
      simp only [Option.bind_some]
      rw [hns, df (by omega), cond_false, wrap_ok (by omega)]; rfl
  · dsimp only
    rw [df (by omega), cond_false]; rfl
theorem usage_impl (N : Nat) (rs : List Rt) (hN : N ≤ 1048576) (h : RtsOk rs) : impl_usage ((N : Int), rs) = some (ldT N rs (-1) rs.length) := by
  obtain ⟨hl, hr⟩ := h
  unfold impl_usage
  dsimp only
  rw [gmake_nat (by omega) (by omega)]
  simp only [Option.bind_some]
  refine loop_upto rs.length (fun k => ((k : Int), ldT N rs (-1) k)) (fun k hk => ?_) ?_
  · dsimp only
    rw [dt (by omega), cond_true, gget_nat hk]
    simp only [Option.bind_some]
    have e : ldT N rs (-1) (k + 1) = cnT N (rs[k]).1 (ldT N rs (-1) k) (rs[k]).1.length := by
      show (if _ then _ else _) = _
      rw [if_neg (by omega), rs_at hk]
    rw [e]
    have hrk := (hr _ (List.getElem_mem hk)).1
    generalize hns : (rs[k]).1 = ns at *
    have hc := ldT_len N rs (-1) k
    generalize ldT N rs (-1) k = c0 at *
    refine loop_upto ns.length (fun j => ((j : Int), (cnT N ns c0 j, mpT N ns j))) (fun j hj => ?_) ?_
    · have hcl := cnT_len N ns c0 j
      dsimp only
      rw [dt (by omega), cond_true, gget_nat hj, ns_at hj, wrap_ok (z := (j : Int) + 1) (by omega), wrap_ok (z := (N : Int) - 1) (by omega)]
      simp only [Option.bind_some]
      rw [inR_impl, mpT_get N ns _ j (by omega)]
      simp only [Option.bind_some]
      by_cases q1 : inN N (nsAt ns j) ∧ nsAt ns j ∉ ns.take j
      · have e2 : cnT N ns c0 (j + 1) = gset (cnT N ns c0 j) (nsAt ns j) (wrap .i64 ((cnT N ns c0 j).getD (nsAt ns j).toNat 0 + 1)) := by
          show (if _ then _ else _) = _
          rw [if_pos q1]
        have e3 : mpT N ns (j + 1) = mset (mpT N ns j) (nsAt ns j) true := by
          show (if _ then _ else _) = _
          rw [if_pos q1]
        rw [e2, e3]
        obtain ⟨⟨x0, x1⟩, q2⟩ := q1
        rw [dt (show 0 ≤ nsAt ns j ∧ nsAt ns j ≤ (N : Int) - 1 by omega), df (show ¬ (inN N (nsAt ns j) ∧ nsAt ns j ∈ ns.take j) from fun e => q2 e.2)]
        simp only [Bool.not_false, cond_true]
        rw [gin_some x0 (by omega), gget_some x0 (by omega)]
        rfl
      · have e2 : cnT N ns c0 (j + 1) = cnT N ns c0 j := by
          show (if _ then _ else _) = _
          rw [if_neg q1]
        have e3 : mpT N ns (j + 1) = mpT N ns j := by
          show (if _ then _ else _) = _
          rw [if_neg q1]
        rw [e2, e3]
        by_cases x0 : inN N (nsAt ns j)
        · have q2 : nsAt ns j ∈ ns.take j := Decidable.byContradiction fun c => q1 ⟨x0, c⟩
          rw [dt (show 0 ≤ nsAt ns j ∧ nsAt ns j ≤ (N : Int) - 1 by unfold inN at x0; omega), dt (show inN N (nsAt ns j) ∧ nsAt ns j ∈ ns.take j from ⟨x0, q2⟩)]; rfl
        · rw [df (show ¬ (0 ≤ nsAt ns j ∧ nsAt ns j ≤ (N : Int) - 1) by unfold inN at x0; omega)]; rfl
    · dsimp only
      rw [df (by omega), cond_false, wrap_ok (by omega)]; rfl
  · dsimp only
    rw [df (by omega), cond_false]; rfl
end Go.Pf

