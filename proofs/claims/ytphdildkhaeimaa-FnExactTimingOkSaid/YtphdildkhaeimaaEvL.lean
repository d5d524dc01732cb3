/-
  Own work. Lists of records in the frame logic.
-/
import Derived.Test.YtphdildkhaeimaaEvK
namespace Go.Ev
open Go Go.RowKit
set_option linter.unusedVariables false

section
variable {α : Type}
def recs (enc : α → List T) (xs : List α) : List (List T) := xs.map enc
def getr [Inhabited α] (xs : List α) (z : Int) : α := xs.getD z.toNat default
def setr (xs : List α) (z : Int) (v : α) : List α := xs.set z.toNat v
theorem recs_len (enc : α → List T) (xs : List α) : (recs enc xs).length = xs.length := List.length_map _
theorem recs_get [Inhabited α] {enc : α → List T} {xs : List α} {z : Int} (h0 : 0 ≤ z) (h1 : z < ((recs enc xs).length : Int)) : (recs enc xs)[z.toNat]? = some (enc (getr xs z)) := by
  rw [recs_len] at h1
  have h : z.toNat < xs.length := by omega
  simp [recs, getr, List.getD, List.getElem?_eq_getElem h]
theorem recs_set (enc : α → List T) (xs : List α) (z : Int) (v : α) : (recs enc xs).set z.toNat (enc v) = recs enc (setr xs z v) := by
  simp [recs, setr, List.map_set]
theorem recs_rep (enc : α → List T) (n : Nat) (a : α) : List.replicate n (enc a) = recs enc (List.replicate n a) := by
  simp [recs]
theorem setr_len (xs : List α) (z : Int) (v : α) : (setr xs z v).length = xs.length := by simp [setr]
theorem getr_setr_eq [Inhabited α] {xs : List α} {z : Int} {v : α} (h0 : 0 ≤ z) (h1 : z < (xs.length : Int)) : getr (setr xs z v) z = v := by
  have h : z.toNat < xs.length := by omega
  simp [getr, setr, List.getD, h]
theorem getr_setr_ne [Inhabited α] {xs : List α} {z j : Int} {v : α} (h0 : 0 ≤ z) (hj : 0 ≤ j) (h : j ≠ z) : getr (setr xs z v) j = getr xs j := by
  have h' : z.toNat ≠ j.toNat := by omega
  simp [getr, setr, List.getD, List.getElem?_set_ne h']
theorem getr_ext [Inhabited α] {xs ys : List α} (hl : xs.length = ys.length) (h : ∀ j : Int, 0 ≤ j → j < (xs.length : Int) → getr xs j = getr ys j) : xs = ys := by
  apply List.ext_getElem hl
  intro i h1 h2
  have := h i (by omega) (by omega)
  simpa [getr, List.getD, List.getElem?_eq_getElem h1, List.getElem?_eq_getElem h2] using this
end
section
variable {X : Ctx} {ops : Array Oper} {rest : List (Oper × Bool)} {fr : Frame} {K : Frame → Prop} {nr : Bool}
variable {d : Nat} {x y : Operand} {t t' ty : TypeId} {ps : String} {af : Array Edge} {gd : Option (Nat × Bool)}
theorem EvO.loadRoAll {c : List T} (hx : val fr x = .roaddr c) (ht : tyOf X.P t = some (true, c.length)) (hne0 : c.isEmpty = false) (hN : Nat.blt d X.N = true) (hw : wantF ops fr gd = some true)
    (h : EvO X ops rest (upd fr d (.agg c)) K) : EvO X ops ((⟨some d, .load t x, ty, ps, af, gd⟩, nr) :: rest) fr K :=
  EvO.loadRoAgg c.length hx (Nat.le_refl _) ht (by cases c with
    | nil => cases hne0
    | cons a l => simp) hN hw (by rw [List.take_length]; exact h)
theorem EvO.idxRoR {α : Type} [Inhabited α] {enc : α → List T} {xs : List α} {n : Nat} {z : Int} (hx : val fr x = .t (.ro (recs enc xs))) (hy : val fr y = .t (.int z)) (h0 : 0 ≤ z) (hi : z < ((recs enc xs).length : Int))
    (hes : elSz X.P t = some (n + 1)) (hl : (enc (getr xs z)).length = n + 1) (hN : Nat.blt d X.N = true) (hw : wantF ops fr gd = some true)
    (h : EvO X ops rest (upd fr d (.roaddr (enc (getr xs z)))) K) : EvO X ops ((⟨some d, .indexAddr t x y, ty, ps, af, gd⟩, nr) :: rest) fr K :=
  EvO.idxRo hx hy h0 (recs_get h0 hi) hl hes hN hw h
theorem EvO.storeR {α : Type} [Inhabited α] {enc : α → List T} {v : α} {e : TypeId} {s m : Nat} {z : Int} {xs : List α} (hx : val fr x = .addr e s [] z.toNat 0) (hf : fr s = .t (.own false e (recs enc xs))) (hy : val fr y = .agg (enc v)) (h0 : 0 ≤ z) (hi : z < ((recs enc xs).length : Int))
    (hl : (enc v).length = (enc (getr xs z)).length) (ht : szOf X.P t = (enc v).length) (hm : (enc v).length = m + 1) (hw : wantF ops fr gd = some true) (hnr : nr = false)
    (h : EvO X ops rest (upd fr s (.t (.own false e (recs enc (setr xs z v))))) K) : EvO X ops ((⟨none, .store t x y, ty, ps, af, gd⟩, nr) :: rest) fr K :=
  EvO.storeAgg hx hf (recs_get h0 hi) hy hl ht hm hw hnr (by rw [recs_set]; exact h)
theorem EvO.makeR {α : Type} [Inhabited α] {enc : α → List T} {a0 : α} {b : Nat} {e : TypeId} {n : Nat} (hx : val fr x = .t (.int (n : Int))) (hy : val fr y = .t (.int (n : Int))) (he : elemOf' X.P t = some e) (hz : zeroT X.P e = some (enc a0)) (hs : szOf X.P e = (enc a0).length)
    (hne0 : (enc a0).isEmpty = false) (hb8 : bytesOf X.P e = b) (hbn : Nat.ble b 65536 = true) (hm : n ≤ 4294967296) (hN : Nat.blt d X.N = true) (hw : wantF ops fr gd = some true)
    (h : EvO X ops rest (place fr d (.t (.own false e (recs enc (List.replicate n a0))))) K) : EvO X ops ((⟨some d, .makeSlice t x y, ty, ps, af, gd⟩, nr) :: rest) fr K :=
  EvO.make hx hy he hz hs hne0 (by
    rw [hb8]
    have hb : b ≤ 65536 := Nat.le_of_ble_eq_true hbn
    calc b * n ≤ 65536 * 4294967296 := Nat.mul_le_mul hb hm
      _ = 281474976710656 := by decide) (by unfold maxLen; omega) hN hw (by rw [recs_rep]; exact h)
end
end Go.Ev
