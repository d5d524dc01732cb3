/-
  Own work. Lists of ints in the frame logic; what is known of a frame; a result that is sealed.
-/
import Derived.Test.YtphdildkhaeimaaEvI
namespace Go.Ev
open Go Go.RowKit
set_option linter.unusedVariables false

def ints (xs : List Int) : List (List T) := xs.map fun z => [T.int z]
def geti (xs : List Int) (z : Int) : Int := xs.getD z.toNat 0
def seti (xs : List Int) (z v : Int) : List Int := xs.set z.toNat v
theorem ints_len (xs : List Int) : (ints xs).length = xs.length := List.length_map _
theorem ints_get {xs : List Int} {z : Int} (h0 : 0 ≤ z) (h1 : z < ((ints xs).length : Int)) : (ints xs)[z.toNat]? = some [.int (geti xs z)] := by
  rw [ints_len] at h1
  have h : z.toNat < xs.length := by omega
  simp [ints, geti, List.getD, List.getElem?_eq_getElem h]
theorem ints_imm (xs : List Int) : Imm (ints xs) := imm_map _ (fun _ => rfl) xs
theorem ints_solid (xs : List Int) : Solid (ints xs) := solid_map _ (fun _ => rfl) xs
theorem ints_set (xs : List Int) (z v : Int) : (ints xs).set z.toNat [.int v] = ints (seti xs z v) := by
  simp [ints, seti, List.map_set]
theorem ints_rep (n : Nat) : List.replicate n [T.int 0] = ints (List.replicate n 0) := by
  simp [ints]
theorem ints_app (xs ys : List Int) : ints xs ++ ints ys = ints (xs ++ ys) := by simp [ints]
theorem seti_len (xs : List Int) (z v : Int) : (seti xs z v).length = xs.length := by simp [seti]
theorem geti_seti_eq {xs : List Int} {z v : Int} (h0 : 0 ≤ z) (h1 : z < (xs.length : Int)) : geti (seti xs z v) z = v := by
  have h : z.toNat < xs.length := by omega
  simp [geti, seti, List.getD, h]
theorem geti_seti_ne {xs : List Int} {z j v : Int} (h0 : 0 ≤ z) (hj : 0 ≤ j) (h : j ≠ z) : geti (seti xs z v) j = geti xs j := by
  have h' : z.toNat ≠ j.toNat := by omega
  simp [geti, seti, List.getD, List.getElem?_set_ne h']
theorem geti_ext {xs ys : List Int} (hl : xs.length = ys.length) (h : ∀ j : Int, 0 ≤ j → j < (xs.length : Int) → geti xs j = geti ys j) : xs = ys := by
  apply List.ext_getElem hl
  intro i h1 h2
  have := h i (by omega) (by omega)
  simpa [geti, List.getD, List.getElem?_eq_getElem h1, List.getElem?_eq_getElem h2] using this
theorem geti_mem {xs : List Int} {x : Int} (h : x ∈ xs) : ∃ j : Int, 0 ≤ j ∧ j < (xs.length : Int) ∧ geti xs j = x := by
  obtain ⟨i, hi⟩ := List.getElem?_of_mem h
  have hl := (List.getElem?_eq_some_iff.1 hi).1
  exact ⟨i, by omega, by omega, by simp [geti, List.getD, hi]⟩
theorem mem_geti {xs : List Int} {j : Int} (h0 : 0 ≤ j) (h1 : j < (xs.length : Int)) : geti xs j ∈ xs := by
  have h : j.toNat < xs.length := by omega
  simp [geti, List.getD, List.getElem?_eq_getElem h]

noncomputable def dec (p : Prop) : Bool := @decide p (Classical.propDecidable p)
theorem dec_t {p : Prop} (h : p) : dec p = true := by exact @decide_eq_true _ (Classical.propDecidable p) h
theorem dec_f {p : Prop} (h : ¬ p) : dec p = false := by exact @decide_eq_false _ (Classical.propDecidable p) h

theorem Ev.know {X : Ctx} {c : Code} {fr : Frame} {KK : Exit → Frame → Prop} (s : Nat) {p : PV} (h : fr s = p) (k : Ev X c (upd fr s p) KK) : Ev X c fr KK := by
  rwa [upd_self fr s p h] at k
theorem Ev.len_le {X : Ctx} {c : Code} {fr : Frame} {KK : Exit → Frame → Prop} (s : Nat) {els : List (List T)} (hf : fr s = .t (.ro els)) (h : els.length ≤ 9223372036854775807 → Ev X c fr KK) : Ev X c fr KK := by
  refine ⟨fun a w ⟨g, hinv⟩ => ?_⟩
  have hs := hinv.slot s
  rw [hf] at hs
  refine (h ?_).run a w ⟨g, hinv⟩
  generalize a.tmps.getD s undef = v at hs
  have hm : maxLen ≤ 9223372036854775807 := by decide
  cases Rep.im' hs rfl with
  | ro0 => simp
  | ro _ b off n' cap _ f hn hc hm => omega
section
variable {X : Ctx} {ops : Array Oper} {rest : List (Oper × Bool)} {fr : Frame} {K : Frame → Prop} {nr : Bool}
variable {d : Nat} {x y : Operand} {t t' ty : TypeId} {ps : String} {af : Array Edge} {gd : Option (Nat × Bool)}
theorem run_equalIn_bool {P : Program} {w : World} {t : TypeId} (n : Nat) (a b : Bool) (h : P.underlying t = some .bool) : (Op.equalIn (n + 1) t (.bool a) (.bool b)).run P w = .ok (a == b) w := by
  simp [Op.equalIn, run_underlying h]
theorem run_neq_bool {P : Program} {w : World} {t : TypeId} (a b : Bool) (h : P.underlying t = some .bool) : (Go.binOp .neq t (.bool a) (.bool b)).run P w = .ok (.bool (a != b)) w := by
  simp only [Go.binOp]
  simp [Op.equal, Op.maxDepth, run_equalIn_bool 9999 a b h, bne]
theorem run_eql_bool {P : Program} {w : World} {t : TypeId} (a b : Bool) (h : P.underlying t = some .bool) : (Go.binOp .eql t (.bool a) (.bool b)).run P w = .ok (.bool (a == b)) w := by
  simp only [Go.binOp]
  simp [Op.equal, Op.maxDepth, run_equalIn_bool 9999 a b h]
theorem run_bin_bool {P : Program} {w : World} (op : BinOp) (k k' : Bool) (v : Value) (h : (Go.binOp op t (.bool k) (.bool k')).run P w = .ok v w) (ρ : Operand → Value) (hx : ρ x = .bool k) (hy : ρ y = .bool k') :
    (execOp ρ ⟨some d, .binOp op t x y t', ty, ps, af, gd⟩).run P w = .ok (.value v) w := by
  simp only [execOp, hx, hy]
  have e : eqGuard op t x y (.bool k) (.bool k') = pure () := by
    unfold eqGuard; split <;> rfl
  rw [e]
  simp only [Sem.run_bind, Sem.run_pure, Result.andThen_ok, h]
def isBool (P : Program) (t : TypeId) : Bool := match P.underlying t with
  | some .bool => true
  | _ => false
theorem isBool_spec {P : Program} {t : TypeId} (h : isBool P t = true) : P.underlying t = some .bool := by
  unfold isBool at h
  split at h
  · assumption
  · cases h
theorem EvO.neqB {a b : Bool} (hx : val fr x = .t (.bool a)) (hy : val fr y = .t (.bool b)) (ht : isBool X.P t = true) (hN : Nat.blt d X.N = true) (hw : wantF ops fr gd = some true)
    (h : EvO X ops rest (upd fr d (.t (.bool (a != b)))) K) : EvO X ops ((⟨some d, .binOp .neq t x y t', ty, ps, af, gd⟩, nr) :: rest) fr K :=
  EvO.q _ rfl rfl hN hw (fun _ w g hi => ⟨.bool (a != b), fun w' _ => run_bin_bool .neq a b _ (run_neq_bool a b (isBool_spec ht)) _ (inv_bool hi hx) (inv_bool hi hy), pbool _⟩) h
theorem EvO.eqlB {a b : Bool} (hx : val fr x = .t (.bool a)) (hy : val fr y = .t (.bool b)) (ht : isBool X.P t = true) (hN : Nat.blt d X.N = true) (hw : wantF ops fr gd = some true)
    (h : EvO X ops rest (upd fr d (.t (.bool (a == b)))) K) : EvO X ops ((⟨some d, .binOp .eql t x y t', ty, ps, af, gd⟩, nr) :: rest) fr K :=
  EvO.q _ rfl rfl hN hw (fun _ w g hi => ⟨.bool (a == b), fun w' _ => run_bin_bool .eql a b _ (run_eql_bool a b (isBool_spec ht)) _ (inv_bool hi hx) (inv_bool hi hy), pbool _⟩) h
theorem EvO.neqBs {a : Bool} (hx : val fr x = .t (.bool a)) (hy : val fr y = .t (.bool a)) (ht : isBool X.P t = true) (hN : Nat.blt d X.N = true) (hw : wantF ops fr gd = some true)
    (h : EvO X ops rest (upd fr d (.t (.bool false))) K) : EvO X ops ((⟨some d, .binOp .neq t x y t', ty, ps, af, gd⟩, nr) :: rest) fr K :=
  EvO.neqB hx hy ht hN hw (by have e : (a != a) = false := by cases a <;> rfl
                              rw [e]; exact h)
theorem EvO.idxRoI {xs : List Int} {z : Int} (hx : val fr x = .t (.ro (ints xs))) (hy : val fr y = .t (.int z)) (h0 : 0 ≤ z) (hi : z < ((ints xs).length : Int))
    (hes : elSz X.P t = some (0 + 1)) (hN : Nat.blt d X.N = true) (hw : wantF ops fr gd = some true)
    (h : EvO X ops rest (upd fr d (.roaddr [.int (geti xs z)])) K) : EvO X ops ((⟨some d, .indexAddr t x y, ty, ps, af, gd⟩, nr) :: rest) fr K :=
  EvO.idxRo hx hy h0 (ints_get h0 hi) rfl hes hN hw h
theorem EvO.loadI {e : TypeId} {s : Nat} {z : Int} {xs : List Int} (hx : val fr x = .addr e s [] z.toNat 0) (hf : fr s = .t (.own false e (ints xs))) (h0 : 0 ≤ z) (hi : z < ((ints xs).length : Int))
    (ht : tyOne X.P t = true) (hN : Nat.blt d X.N = true) (hw : wantF ops fr gd = some true)
    (h : EvO X ops rest (upd fr d (.t (.int (geti xs z)))) K) : EvO X ops ((⟨some d, .load t x, ty, ps, af, gd⟩, nr) :: rest) fr K :=
  EvO.loadOwn hx hf (ints_get h0 hi) rfl rfl ht hN hw h
theorem EvO.storeI {e : TypeId} {s : Nat} {z v : Int} {xs : List Int} (hx : val fr x = .addr e s [] z.toNat 0) (hf : fr s = .t (.own false e (ints xs))) (hy : val fr y = .t (.int v)) (h0 : 0 ≤ z) (hi : z < ((ints xs).length : Int))
    (ht : szOf X.P t = 0 + 1) (hw : wantF ops fr gd = some true) (hnr : nr = false)
    (h : EvO X ops rest (upd fr s (.t (.own false e (ints (seti xs z v))))) K) : EvO X ops ((⟨none, .store t x y, ty, ps, af, gd⟩, nr) :: rest) fr K :=
  EvO.store hx hf (ints_get h0 hi) hy rfl ht hw hnr (by
    have e : splice [T.int (geti xs z)] 0 [.int v] = [.int v] := rfl
    rw [e, ints_set]; exact h)
theorem EvO.makeI {e : TypeId} {n : Nat} (hx : val fr x = .t (.int (n : Int))) (hy : val fr y = .t (.int (n : Int))) (he : elemOf' X.P t = some e) (hz : zeroT X.P e = some [.int 0]) (hs : szOf X.P e = 0 + 1)
    (hb8 : bytesOf X.P e = 8) (hm : n ≤ 35184372088832) (hN : Nat.blt d X.N = true) (hw : wantF ops fr gd = some true)
    (h : EvO X ops rest (place fr d (.t (.own false e (ints (List.replicate n 0))))) K) : EvO X ops ((⟨some d, .makeSlice t x y, ty, ps, af, gd⟩, nr) :: rest) fr K :=
  EvO.make hx hy he hz hs rfl (by rw [hb8]; omega) (by unfold maxLen; omega) hN hw (by rw [ints_rep]; exact h)
end
/-- A result that only what can't change lies in may be taken as what is only read. -/
theorem CallSpec.shut {P : Program} {f : FuncId} {ds : List R} {e : TypeId} {els : List (List T)} (h : CallSpec P f ds (.t (.own false e els))) (him : Imm els) : CallSpec P f ds (.t (.ro els)) :=
  ⟨h.fn, fun w S args h1 h2 h3 => (h.run w S args h1 h2 h3).mono fun ee w' hP => by
    obtain ⟨v, rfl, hL, g, hS, hO, hp⟩ := hP
    have hp : Rep P w' g (0, []) (.own false e els) v := hp
    let g' : G := ⟨fun b => g.S b ∨ g.own b = some (0, []), fun _ => none, g.hdr⟩
    refine ⟨v, rfl, hL, g', fun b hb => ?_, fun b l hl => (by cases hl), ?_⟩
    · rcases hb with hb | hb
      · exact hS b hb
      · obtain ⟨q1, q2, _⟩ := hO b _ hb
        exact ⟨q2, .inr q1⟩
    · show Rep P w' g' (0, []) (.ro els) v
      refine .im _ _ _ ?_
      cases hp with
      | im _ _ _ h => cases h
      | own0 _ _ _ _ hv => rcases hv with rfl | ⟨a', rfl⟩ <;> exact .ro0 _ _
      | own _ _ _ _ b base n cap cs f _ hv hd ho hh hn hc hm hcs hs0 hsz hcell hrep =>
        simp only [Bool.false_eq_true, if_false] at hv
        subst hv
        refine .ro els b base n cap (szOf P e) f hn hc hm (.inr ho) hs0 hsz (fun i c k x q1 q2 => by rw [cell_of_row w' b _ cs e (0, 0) hh]; exact hcell i c k x q1 q2) (fun i c k x q1 q2 => ?_)
        exact ((hrep i c k x q1 q2).im' (him c (List.mem_of_getElem? q1) x (List.mem_of_getElem? q2))).keep fun b hb => ⟨.inl hb, rfl⟩⟩
end Go.Ev
