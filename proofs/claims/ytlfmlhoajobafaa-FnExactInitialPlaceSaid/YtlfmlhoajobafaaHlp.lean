/-
  Own work. The laws' helpers for lists: sizes, copies, comparisons.
-/
import Derived.Test.YtlfmlhoajobafaaPbA
import Derived.Test.YtlfmlhoajobafaaPln
import Derived.Test.YtlfmlhoajobafaaD
namespace Go.Pf
open Go Go.Pu
set_option linter.unusedVariables false

theorem eqL_refl {α : Type} (d0 : α) (eqf : α × α → Option Bool) (xs : List α) (hl : xs.length ≤ 4611686018427387904) (h : ∀ x ∈ xs, eqf (x, x) = some true) :
    (let v1 : Int := ((xs).length : Int)
    let v2 : Int := ((xs).length : Int)
    let v3 : Bool := decide (v1 ≠ v2)
    bif v3 then (
      some false) else
    Pu.loop (fun (v4 : Int) =>
      let v5 : Int := ((xs).length : Int)
      let v6 : Bool := decide (v4 < v5)
      bif v6 then (
        (gget d0 xs v4).bind fun v7 =>
        (gget d0 xs v4).bind fun v8 =>
        (eqf (v7, v8)).bind fun v9 =>
        let v10 : Bool := !v9
        bif v10 then (
          Option.map Sum.inr (
            some false)) else
        let v11 : Int := wrap .i64 (v4 + 1)
        some (.inl v11)) else
      Option.map Sum.inr (
        some true)) 0) = some true := by
  dsimp only
  rw [df (by simp), cond_false]
  refine loop_upto xs.length (fun k => (k : Int)) (fun k hk => ?_) ?_
  · try dsimp only
    rw [dt (by omega), cond_true, gget_nat hk]
    simp only [Option.bind_some, h _ (List.getElem_mem hk), Bool.not_true, cond_false]
    rw [wrap_ok (by omega)]; rfl
  · try dsimp only
    rw [df (by omega), cond_false]; rfl
theorem toL_ok {α : Type} (b : Nat) (d0 : α) (tof : α → Option α) (xs : List α) (hl : xs.length ≤ 1048576) (hb : b ≤ 1000) (h : ∀ x ∈ xs, tof x = some x) :
    (let v1 : Int := ((xs).length : Int)
    (gmake b (d0 : α) v1).bind fun v2 =>
    Pu.loop (fun (v3 : (Int × List α)) =>
      let v4 : Int := ((xs).length : Int)
      let v5 : Bool := decide (v3.1 < v4)
      bif v5 then (
        (gget d0 xs v3.1).bind fun v6 =>
        (tof v6).bind fun v7 =>
        (gin (v3.2).length v3.1).bind fun _ =>
        (gget d0 v3.2 v3.1).bind fun v9 =>
        let v10 : α := v7
        let v11 : List α := gset v3.2 v3.1 v10
        let v12 : Int := wrap .i64 (v3.1 + 1)
        some (.inl (v12, v11))) else
      Option.map Sum.inr (
        some v3.2)) (0, v2)) = some xs := by
  dsimp only
  have hmul : xs.length * b ≤ 1048576 * 1000 := Nat.mul_le_mul hl hb
  rw [gmake_nat (by omega) (by omega)]
  simp only [Option.bind_some]
  have e0 : ((0 : Int), List.replicate xs.length d0) = (fun k : Nat => ((k : Int), xs.take k ++ List.replicate (xs.length - k) d0)) 0 := by simp
  rw [e0]
  refine loop_upto xs.length (fun k => ((k : Int), xs.take k ++ List.replicate (xs.length - k) d0)) (fun k hk => ?_) ?_
  · have hlen : (xs.take k ++ List.replicate (xs.length - k) d0).length = xs.length := by simp; omega
    dsimp only
    rw [dt (by omega), cond_true, gget_nat hk]
    simp only [Option.bind_some, h _ (List.getElem_mem hk)]
    rw [hlen, gin_nat hk, gget_nat (by rw [hlen]; exact hk)]
    simp only [Option.bind_some]
    rw [wrap_ok (by omega), gset_nat]
    congr 3
    apply List.ext_getElem?
    intro j
    by_cases hjk : j = k
    · subst hjk
      rw [List.getElem?_set_self (by rw [hlen]; exact hk), List.getElem?_append_left (by rw [List.length_take]; omega), List.getElem?_take]
      rw [if_pos (by omega), List.getElem?_eq_getElem hk]
    · rw [List.getElem?_set_ne (by omega)]
      by_cases hj : j < k
      · rw [List.getElem?_append_left (by rw [List.length_take]; omega), List.getElem?_append_left (by rw [List.length_take]; omega), List.getElem?_take, List.getElem?_take, if_pos hj, if_pos (by omega)]
      · rw [List.getElem?_append_right (by rw [List.length_take]; omega), List.getElem?_append_right (by rw [List.length_take]; omega), List.getElem?_replicate, List.getElem?_replicate, List.length_take, List.length_take]
        by_cases hn : j < xs.length
        · rw [if_pos (by omega), if_pos (by omega)]
        · rw [if_neg (by omega), if_neg (by omega)]
  · dsimp only
    rw [df (by omega), cond_false]
    simp
/-- A size function answers -1, or else something that is not negative nor above the budget, and then P holds. -/
def SzOk {α : Type} (szf : α × Int → Option Int) (x : α) (P : Prop) : Prop := ∀ b : Int, 0 ≤ b → b ≤ 1048576 → szf (x, b) = some (-1) ∨ (P ∧ ∃ z, 0 ≤ z ∧ z ≤ b ∧ szf (x, b) = some z)
theorem szleaf {α : Type} (xs : List α) (hl : xs.length ≤ 9223372036854775807) : ∀ b : Int, 0 ≤ b → b ≤ 1048576 →
    (let v1 : Int := ((xs).length : Int)
    let v2 : Int := wrap .i64 (b - v1)
    let v3 : Bool := decide (v2 < 0)
    bif v3 then (
      some (-1)) else
    some v2) = some (-1) ∨ (xs.length ≤ 1048576 ∧ ∃ z, 0 ≤ z ∧ z ≤ b ∧ (let v1 : Int := ((xs).length : Int)
    let v2 : Int := wrap .i64 (b - v1)
    let v3 : Bool := decide (v2 < 0)
    bif v3 then (
      some (-1)) else
    some v2) = some z) := by
  intro b b0 b1
  dsimp only
  rw [wrap_ok (by omega)]
  by_cases h : b - (xs.length : Int) < 0
  · left; rw [dt h]; rfl
  · right
    rw [df h]
    exact ⟨by omega, b - (xs.length : Int), by omega, by omega, rfl⟩
theorem szone {o : Option Int} {P : Prop} {b : Int} (h : o = some (-1) ∨ (P ∧ ∃ z, 0 ≤ z ∧ z ≤ b ∧ o = some z)) :
    (o.bind fun v1 =>
    let v2 : Bool := decide (v1 < 0)
    bif v2 then (
      some (-1)) else
    some v1) = some (-1) ∨ (P ∧ ∃ z, 0 ≤ z ∧ z ≤ b ∧ (o.bind fun v1 =>
    let v2 : Bool := decide (v1 < 0)
    bif v2 then (
      some (-1)) else
    some v1) = some z) := by
  rcases h with h | ⟨p, z, z0, z1, h⟩
  · left; rw [h]; rfl
  · right
    refine ⟨p, z, z0, z1, ?_⟩
    rw [h]
    simp only [Option.bind_some]
    rw [df (by omega)]; rfl
theorem szlist {α : Type} (d0 : α) (szf : α × Int → Option Int) (P : α → Prop) (xs : List α) (hl : xs.length ≤ 9223372036854775807) (h : ∀ x ∈ xs, SzOk szf x (P x)) : ∀ b : Int, 0 ≤ b → b ≤ 1048576 →
    (let v1 : Int := ((xs).length : Int)
    let v2 : Int := wrap .i64 (b - v1)
    let v3 : Bool := decide (v2 < 0)
    bif v3 then (
      some (-1)) else
    Pu.loop (fun (v4 : (Int × Int)) =>
      let v5 : Int := ((xs).length : Int)
      let v6 : Bool := decide (v4.2 < v5)
      bif v6 then (
        (gget d0 xs v4.2).bind fun v7 =>
        (szf (v7, v4.1)).bind fun v8 =>
        let v9 : Bool := decide (v8 < 0)
        bif v9 then (
          Option.map Sum.inr (
            some (-1))) else
        let v10 : Int := wrap .i64 (v4.2 + 1)
        some (.inl (v8, v10))) else
      Option.map Sum.inr (
        some v4.1)) (v2, 0)) = some (-1) ∨ ((xs.length ≤ 1048576 ∧ ∀ x ∈ xs, P x) ∧ ∃ z, 0 ≤ z ∧ z ≤ b ∧ (let v1 : Int := ((xs).length : Int)
    let v2 : Int := wrap .i64 (b - v1)
    let v3 : Bool := decide (v2 < 0)
    bif v3 then (
      some (-1)) else
    Pu.loop (fun (v4 : (Int × Int)) =>
      let v5 : Int := ((xs).length : Int)
      let v6 : Bool := decide (v4.2 < v5)
      bif v6 then (
        (gget d0 xs v4.2).bind fun v7 =>
        (szf (v7, v4.1)).bind fun v8 =>
        let v9 : Bool := decide (v8 < 0)
        bif v9 then (
          Option.map Sum.inr (
            some (-1))) else
        let v10 : Int := wrap .i64 (v4.2 + 1)
        some (.inl (v8, v10))) else
      Option.map Sum.inr (
        some v4.1)) (v2, 0)) = some z) := by
  intro b b0 b1
  dsimp only
  rw [wrap_ok (by omega)]
  by_cases hb : b - (xs.length : Int) < 0
  · left; rw [dt hb]; rfl
  · rw [df hb, cond_false]
    obtain ⟨o, h1, h2⟩ := loop_spec (f := fun (v4 : (Int × Int)) =>
      let v5 : Int := ((xs).length : Int)
      let v6 : Bool := decide (v4.2 < v5)
      bif v6 then (
        (gget d0 xs v4.2).bind fun v7 =>
        (szf (v7, v4.1)).bind fun v8 =>
        let v9 : Bool := decide (v8 < 0)
        bif v9 then (
          Option.map Sum.inr (
            some (-1))) else
        let v10 : Int := wrap .i64 (v4.2 + 1)
        some (.inl (v8, v10))) else
      Option.map Sum.inr (
        some v4.1)) (fun s => 0 ≤ s.2 ∧ s.2 ≤ xs.length ∧ 0 ≤ s.1 ∧ s.1 ≤ b ∧ ∀ j : Nat, (j : Int) < s.2 → ∀ q : j < xs.length, P xs[j]) (fun o => o = -1 ∨ (0 ≤ o ∧ o ≤ b ∧ ∀ x ∈ xs, P x)) (fun s => (xs.length - s.2).toNat) (fun s hs => by
        obtain ⟨c, i⟩ := s
        obtain ⟨i0, i1, c0, c1, hP⟩ := hs
        simp only at i0 i1 c0 c1 hP
        by_cases hi : i < (xs.length : Int)
        · obtain ⟨k, rfl⟩ : ∃ k : Nat, i = (k : Int) := ⟨i.toNat, by omega⟩
          have hk : k < xs.length := by omega
          dsimp only
          rw [dt hi, cond_true, gget_nat hk]
          simp only [Option.bind_some]
          rcases h _ (List.getElem_mem hk) c c0 (by omega) with e | ⟨p, z, z0, z1, e⟩
          · right; rw [e]; exact ⟨-1, rfl, Or.inl rfl⟩
          · left
            rw [e]
            simp only [Option.bind_some]
            rw [df (by omega), cond_false, wrap_ok (by omega)]
            refine ⟨_, rfl, ⟨by simp only; omega, by simp only; omega, z0, by simp only; omega, fun j hj q => ?_⟩, by simp only; omega⟩
            by_cases hjk : j = k
            · subst hjk; exact p
            · exact hP j (by simp only at hj; omega) q
        · right
          dsimp only
          rw [df hi, cond_false]
          refine ⟨c, rfl, Or.inr ⟨c0, c1, fun x hx => ?_⟩⟩
          obtain ⟨j, hj, rfl⟩ := List.getElem_of_mem hx
          exact hP j (by omega) hj) (b - (xs.length : Int), 0) ⟨by simp, by simp, by simp only; omega, by simp only; omega, fun j hj q => by simp at hj; omega⟩
    rcases h2 with h2 | ⟨o0, o1, h2⟩
    · left; rw [h1, h2]
    · right
      exact ⟨⟨by omega, h2⟩, o, o0, o1, h1⟩

/-! ### Pins, connections -/
abbrev Dev := Int × (Int × (Int × Int))
abbrev Pin := Int × Int
abbrev Conn := Int × (Pin × List Pin)
theorem eqPin_refl (x : Pin) : laws_eqPin (x, x) = some true := by
  unfold laws_eqPin
  simp
theorem toPinS_ok (xs : List Pin) (hl : xs.length ≤ 1048576) : laws_toPinS xs = some xs := toL_ok 16 (0, 0) laws_toPin xs hl (by omega) (fun _ _ => rfl)
theorem eqPinS_refl (xs : List Pin) (hl : xs.length ≤ 1048576) : laws_eqPinS (xs, xs) = some true := eqL_refl (0, 0) laws_eqPin xs (by omega) (fun x _ => eqPin_refl x)
def CnOk (c : Conn) : Prop := c.2.2.length ≤ 1048576
theorem szConn_ok (c : Conn) (hl : c.2.2.length ≤ 9223372036854775807) : SzOk laws_szConn c (CnOk c) := fun b b0 b1 => szone (szleaf c.2.2 hl b b0 b1)
theorem toConn_ok (c : Conn) (h : CnOk c) : laws_toConn c = some c := by
  unfold laws_toConn
  have e : laws_toPin c.2.1 = some c.2.1 := rfl
  simp only [e, toPinS_ok c.2.2 h, Option.bind_some]
theorem eqConn_refl (c : Conn) (h : CnOk c) : laws_eqConn (c, c) = some true := by
  unfold laws_eqConn
  simp only [eqPin_refl, eqPinS_refl c.2.2 h, Option.bind_some, ne_eq, not_true_eq_false, decide_false, cond_false, Bool.not_true]
def CnsOk (xs : List Conn) : Prop := xs.length ≤ 1048576 ∧ ∀ x ∈ xs, CnOk x
theorem szConnS_ok (xs : List Conn) (hl : xs.length ≤ 9223372036854775807) (hc : ∀ x ∈ xs, List.length x.2.2 ≤ 9223372036854775807) : SzOk laws_szConnS xs (CnsOk xs) := szlist (0, ((0, 0), [])) laws_szConn CnOk xs hl (fun x hx => szConn_ok x (hc x hx))
theorem toConnS_ok (xs : List Conn) (h : CnsOk xs) : laws_toConnS xs = some xs := toL_ok 48 (0, ((0, 0), [])) laws_toConn xs h.1 (by omega) (fun x hx => toConn_ok x (h.2 x hx))
theorem eqConnS_refl (xs : List Conn) (h : CnsOk xs) : laws_eqConnS (xs, xs) = some true := eqL_refl (0, ((0, 0), [])) laws_eqConn xs (by have := h.1; omega) (fun x hx => eqConn_refl x (h.2 x hx))

/-! ### Arcs, graphs, points -/
abbrev Arc := Int × (Int × Int)
abbrev TG := Int × List Arc
theorem eqArc_refl (x : Arc) : laws_eqArc (x, x) = some true := by
  unfold laws_eqArc
  simp
def TGOk (g : TG) : Prop := g.2.length ≤ 1048576
theorem szTG_ok (g : TG) (hl : g.2.length ≤ 9223372036854775807) : SzOk laws_szTimingGraph g (TGOk g) := fun b b0 b1 => szone (szleaf g.2 hl b b0 b1)
theorem toTG_ok (g : TG) (h : TGOk g) : laws_toTimingGraph g = some g := by
  unfold laws_toTimingGraph
  have e : laws_toArcS g.2 = some g.2 := toL_ok 24 (0, (0, 0)) laws_toArc g.2 h (by omega) (fun _ _ => rfl)
  simp only [e, Option.bind_some]
theorem eqTG_refl (g : TG) (h : TGOk g) : laws_eqTimingGraph (g, g) = some true := by
  unfold laws_eqTimingGraph
  have e : laws_eqArcS (g.2, g.2) = some true := eqL_refl (0, (0, 0)) laws_eqArc g.2 (by unfold TGOk at h; omega) (fun x _ => eqArc_refl x)
  simp only [e, Option.bind_some, ne_eq, not_true_eq_false, decide_false, cond_false, Bool.not_true]
theorem eqPoint_refl (x : Int × Int) : laws_eqPoint (x, x) = some true := by
  unfold laws_eqPoint
  simp
theorem szPointS_ok (xs : List (Int × Int)) (hl : xs.length ≤ 9223372036854775807) : SzOk laws_szPointS xs (xs.length ≤ 1048576) := fun b b0 b1 => szleaf xs hl b b0 b1
theorem toPointS_ok (xs : List (Int × Int)) (h : xs.length ≤ 1048576) : laws_toPointS xs = some xs := toL_ok 16 (0, 0) laws_toPoint xs h (by omega) (fun _ _ => rfl)
theorem eqPointS_refl (xs : List (Int × Int)) (h : xs.length ≤ 1048576) : laws_eqPointS (xs, xs) = some true := eqL_refl (0, 0) laws_eqPoint xs (by omega) (fun x _ => eqPoint_refl x)
end Go.Pf
