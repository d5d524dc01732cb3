/-
  Own work. Contracts gathered.
-/
import Derived.Test.YtamaghlnjchhbaaPuAe
namespace Go.Pu
open Go Go.RowKit
theorem Specs.nil {P : Program} : Specs P [] [] := fun s h => by cases h
theorem Specs.cons {P : Program} {s : Sig} {ss : List Sig} {Γ : List FE} {fn : s.p.den → Option s.r.den} (h : CallSpec P s fn) (hs : Specs P ss Γ) (hk : ss.all (fun s' => !(Nat.beq s.key s'.key)) = true) : Specs P (s :: ss) (⟨s.key, s.p, s.r, fn⟩ :: Γ) := fun s' hm => by
  rcases List.mem_cons.1 hm with rfl | hm
  · exact ⟨fn, by simp [findF], h⟩
  · obtain ⟨fn', h1, h2⟩ := hs s' hm
    refine ⟨fn', ?_, h2⟩
    have := List.all_eq_true.1 hk s' hm
    simp only [Bool.not_eq_true'] at this
    simp only [findF]
    rw [if_neg (fun e => by rw [e, Nat.beq_refl] at this; cases this)]
    exact h1

/-! ### Short names for printed terms -/
abbrev i0 : Bool := false
abbrev i1 : Bool := true
abbrev i6 : IntKind := .i64
abbrev tI : Ty := .int .i64
abbrev tB : Ty := .bool
abbrev tP (a b : Ty) : Ty := .pr a b
abbrev tS (e : TypeId) (a : Ty) : Ty := .sl e a
abbrev aV (n : Nat) : At := .r ⟨n, []⟩
abbrev aR (n : Nat) (p : List Bool) : At := .r ⟨n, p⟩
abbrev aI (z : Int) : At := .int .i64 z
abbrev sV (x : At) : SC := .v x
abbrev sW (x : At) : SV := .c (.v x)
abbrev sB (e : Ex) (s : Stm) : Stm := .bind e s
abbrev sI (x : At) (s t : Stm) : Stm := .ite x s t
abbrev sL (t : Ty) (xs : List At) (s : Stm) : Stm := .loop t xs s
abbrev sJ (t : Ty) (s k : Stm) : Stm := .join t s k
abbrev sN (t : Ty) (xs : List At) : Stm := .next t xs
abbrev sU (s : Stm) : Stm := .lift s
abbrev sR (t : Ty) (xs : List At) : Stm := .ret t xs
end Go.Pu
