/-
  Own work. The laws' helpers for lists: sizes, copies, comparisons.
-/
import Derived.Test.YtjpkedhcbnklmaaPbA
import Derived.Test.YtjpkedhcbnklmaaPln
import Derived.Test.YtjpkedhcbnklmaaD
namespace Go.Pf
open Go Go.Pu
set_option linter.unusedVariables false

theorem eqL_refl {α : Type} (d0 : α) (eqf : α × α → Option Bool) (xs : List α) (hl : xs.length ≤ 4611686018427387904) (h : ∀ x ∈ xs, eqf (x, x) = some true) :
    (let v1 : Int := ((xs).length : Int)
    let v2 : Int := ((xs).length : Int)
    let v3 : Bool := decide (v1 ≠ v2)
    bif v3 then (
      some false) else
    Pu.loop (fun (v4 : Int) =>
      let v5 : Int := ((xs).length : Int)
      let v6 : Bool := decide (v4 < v5)
      bif v6 then (
        (gget d0 xs v4).bind fun v7 =>
        (gget d0 xs v4).bind fun v8 =>
        (eqf (v7, v8)).bind fun v9 =>
        let v10 : Bool := !v9
        bif v10 then (
          Option.map Sum.inr (
            some false)) else
        let v11 : Int := wrap .i64 (v4 + 1)
        some (.inl v11)) else
      Option.map Sum.inr (
        some true)) 0) = some true := by
  dsimp only
  rw [df (by simp), cond_false]
  refine loop_upto xs.length (fun k => (k : Int)) (fun k hk => ?_) ?_
  · try dsimp only
    rw [dt (by omega), cond_true, gget_nat hk]
    simp only [Option.bind_some, h _ (List.getElem_mem hk), Bool.not_true, cond_false]
    rw [wrap_ok (by omega)]; rfl
  · try dsimp only
    rw [df (by omega), cond_false]; rfl
theorem toL_ok {α : Type} (b : Nat) (d0 : α) (tof : α → Option α) (xs : List α) (hl : xs.length ≤ 1048576) (hb : b ≤ 1000) (h : ∀ x ∈ xs, tof x = some x) :
    (let v1 : Int := ((xs).length : Int)
    (gmake b (d0 : α) v1).bind fun v2 =>
    Pu.loop (fun (v3 : (Int × List α)) =>
      let v4 : Int := ((xs).length : Int)
      let v5 : Bool := decide (v3.1 < v4)
      bif v5 then (
        (gget d0 xs v3.1).bind fun v6 =>
        (tof v6).bind fun v7 =>
        (gin (v3.2).length v3.1).bind fun _ =>
        (gget d0 v3.2 v3.1).bind fun v9 =>
        let v10 : α := v7
        let v11 : List α := gset v3.2 v3.1 v10
        let v12 : Int := wrap .i64 (v3.1 + 1)
        some (.inl (v12, v11))) else
      Option.map Sum.inr (
        some v3.2)) (0, v2)) = some xs := by
  dsimp only
  have hmul : xs.length * b ≤ 1048576 * 1000 := Nat.mul_le_mul hl hb
  rw [gmake_nat (by omega) (by omega)]
  simp only [Option.bind_some]
  have e0 : ((0 : Int), List.replicate xs.length d0) = (fun k : Nat => ((k : Int), xs.take k ++ List.replicate (xs.length - k) d0)) 0 := by simp
  rw [e0]
  refine loop_upto xs.length (fun k => ((k : Int), xs.take k ++ List.replicate (xs.length - k) d0)) (fun k hk => ?_) ?_
  · have hlen : (xs.take k ++ List.replicate (xs.length - k) d0).length = xs.length := by simp; omega
    dsimp only
    rw [dt (by omega), cond_true, gget_nat hk]
    simp only [Option.bind_some, h _ (List.getElem_mem hk)]
    rw [hlen, gin_nat hk, gget_nat (by rw [hlen]; exact hk)]
    simp only [Option.bind_some]
    rw [wrap_ok (by omega), gset_nat]
    congr 3
    apply List.ext_getElem?
    intro j
    by_cases hjk : j = k
    · subst hjk
      rw [List.getElem?_set_self (by rw [hlen]; exact hk), List.getElem?_append_left (by rw [List.length_take]; omega), List.getElem?_take]
      rw [if_pos (by omega), List.getElem?_eq_getElem hk]
    · rw [List.getElem?_set_ne (by omega)]
      by_cases hj : j < k
      · rw [List.getElem?_append_left (by rw [List.length_take]; omega), List.getElem?_append_left (by rw [List.length_take]; omega), List.getElem?_take, List.getElem?_take, if_pos hj, if_pos (by omega)]
      · rw [List.getElem?_append_right (by rw [List.length_take]; omega), List.getElem?_append_right (by rw [List.length_take]; omega), List.getElem?_replicate, List.getElem?_replicate, List.length_take, List.length_take]
        by_cases hn : j < xs.length
        · rw [if_pos (by omega), if_pos (by omega)]
        · rw [if_neg (by omega), if_neg (by omega)]
  · dsimp only
    rw [df (by omega), cond_false]
    simp
abbrev Dev := Int × (Int × (Int × Int))
abbrev Pin := Int × Int
abbrev Conn := Int × (Pin × List Pin)
theorem eqPin_refl (x : Pin) : laws_eqPin (x, x) = some true := by
  unfold laws_eqPin
  simp
theorem toPinS_ok (xs : List Pin) (hl : xs.length ≤ 1048576) : laws_toPinS xs = some xs := toL_ok 16 (0, 0) laws_toPin xs hl (by omega) (fun _ _ => rfl)
theorem eqPinS_refl (xs : List Pin) (hl : xs.length ≤ 1048576) : laws_eqPinS (xs, xs) = some true := eqL_refl (0, 0) laws_eqPin xs (by omega) (fun x _ => eqPin_refl x)
def CnOk (c : Conn) : Prop := c.2.2.length ≤ 1048576
theorem toConn_ok (c : Conn) (h : CnOk c) : laws_toConn c = some c := by
  unfold laws_toConn
  have e : laws_toPin c.2.1 = some c.2.1 := rfl
  simp only [e, toPinS_ok c.2.2 h, Option.bind_some]
theorem eqConn_refl (c : Conn) (h : CnOk c) : laws_eqConn (c, c) = some true := by
  unfold laws_eqConn
  simp only [eqPin_refl, eqPinS_refl c.2.2 h, Option.bind_some, ne_eq, not_true_eq_false, decide_false, cond_false, Bool.not_true]
def CnsOk (xs : List Conn) : Prop := xs.length ≤ 1048576 ∧ ∀ x ∈ xs, CnOk x
theorem toConnS_ok (xs : List Conn) (h : CnsOk xs) : laws_toConnS xs = some xs := toL_ok 48 (0, ((0, 0), [])) laws_toConn xs h.1 (by omega) (fun x hx => toConn_ok x (h.2 x hx))
theorem eqConnS_refl (xs : List Conn) (h : CnsOk xs) : laws_eqConnS (xs, xs) = some true := eqL_refl (0, ((0, 0), [])) laws_eqConn xs (by have := h.1; omega) (fun x hx => eqConn_refl x (h.2 x hx))

end Go.Pf

