/-
  Own work. Wires: what they reach, and how many a route has; helpers of the laws.
-/
import Derived.Test.YtlfmlhoajobafaaDvd
import Derived.Test.YtlfmlhoajobafaaLawPathTo
namespace Go.Pf
open Go Go.Pu

theorem szRoute_ok (a b : List Int) (ha : a.length ≤ 9223372036854775807) (hb : b.length ≤ 9223372036854775807) : (laws_szRoute ((a, b), 1048576) = some (-1)) ∨ (a.length ≤ 1048576 ∧ b.length ≤ 1048576 ∧ ∃ z, 0 ≤ z ∧ laws_szRoute ((a, b), 1048576) = some z) := by
  unfold laws_szRoute
  simp only
  rcases szIntS_ok a 1048576 (by omega) (by omega) ha with ⟨_, e⟩ | ⟨h1, e⟩
  · left; rw [e]; rfl
  · rw [e]
    have d1 : decide (1048576 - (a.length : Int) < 0) = false := decide_eq_false (by omega)
    simp only [Option.bind_some, d1, cond_false]
    rcases szIntS_ok b (1048576 - (a.length : Int)) (by omega) (by omega) hb with ⟨_, e⟩ | ⟨h2, e⟩
    · left; rw [e]; rfl
    · right
      refine ⟨by omega, by omega, 1048576 - (a.length : Int) - (b.length : Int), by omega, ?_⟩
      rw [e]
      have d2 : decide (1048576 - (a.length : Int) - (b.length : Int) < 0) = false := decide_eq_false (by omega)
      simp only [Option.bind_some, d2, cond_false]
theorem gapp_ok {xs ys : List Int} (h : xs.length + ys.length ≤ 10000000000) : gapp 8 xs ys = some (xs ++ ys) := gapp_some (by omega) (by omega)

def reach (d : Int × (Int × (Int × Int))) (n : Int) (k : Nat) : List Int := (List.range k).map fun (j : Nat) => stp d (nTile d n) (wDir d n) ((j : Int) + 1)
theorem reach_succ (d : Int × (Int × (Int × Int))) (n : Int) (k : Nat) : reach d n (k + 1) = reach d n k ++ [stp d (nTile d n) (wDir d n) ((k : Int) + 1)] := by
  unfold reach; rw [List.range_succ, List.map_append]; rfl
theorem reach_len (d : Int × (Int × (Int × Int))) (n : Int) (k : Nat) : (reach d n k).length = k := by simp [reach]
def reaches (d : Int × (Int × (Int × Int))) (n : Int) : List Int := if isWireP d n then reach d n (1 + wTrk d n % 2).toNat else []
theorem reaches_spec (d : Int × (Int × (Int × Int))) (n : Int) : spec_WireReaches (d, n) = some (reaches d n) := by
  unfold spec_WireReaches reaches
  simp only [isWire_spec, Option.bind_some]
  by_cases h : isWireP d n
  · have hd := h.1.1
    obtain ⟨⟨ht0, ht1⟩, ⟨hp0, hp1⟩, _⟩ := node_tp hd h.1.2.1 h.1.2.2.1
    obtain ⟨hdir, ⟨hk0, hk1⟩, _⟩ := wire_dt hd h.1.2.1 h.2 h.1.2.2.1
    have hn := nodesN_le hd
    have hp := per_le hd
    have h3 := h.1.2.2.1
    simp only [dt h, Bool.not_true, cond_false, l27Wire_spec hd h.1.2.1 h.2, Option.bind_some, if_pos h]
    refine loop_upto (1 + wTrk d n % 2).toNat (fun k => ((k : Int) + 1, reach d n k)) (fun k hk => ?_) ?_
    · dsimp only
      rw [grem_nn hk0 (by omega)]
      simp only [Option.bind_some]
      rw [wrap_ok (z := 1 + wTrk d n % 2) (by omega), dt (by omega), cond_true, per_spec hd]
      simp only [Option.bind_some]
      rw [gdiv_nn h.1.2.1 (by omega) (by omega)]
      simp only [Option.bind_some]
      have e : n / per d = nTile d n := rfl
      rw [e, stp_spec hd ht0 ht1 hdir (by omega)]
      simp only [Option.bind_some]
      rw [gapp_ok (by rw [reach_len]; simp; omega), reach_succ]
      simp only [Option.bind_some]
      rw [wrap_ok (by omega)]
      rfl
    · dsimp only
      rw [grem_nn hk0 (by omega)]
      simp only [Option.bind_some]
      rw [wrap_ok (z := 1 + wTrk d n % 2) (by omega), df (by omega), cond_false]
      rfl
  · rw [df h, if_neg h]; rfl
theorem reaches_impl (d : Int × (Int × (Int × Int))) (n : Int) : impl_WireReaches (d, n) = some (reaches d n) := by
  unfold impl_WireReaches reaches
  simp only [isWire_impl, Option.bind_some]
  by_cases h : isWireP d n
  · have hd := h.1.1
    obtain ⟨⟨ht0, ht1⟩, ⟨hp0, hp1⟩, _⟩ := node_tp hd h.1.2.1 h.1.2.2.1
    obtain ⟨hdir, ⟨hk0, hk1⟩, _⟩ := wire_dt hd h.1.2.1 h.2 h.1.2.2.1
    have hn := nodesN_le hd
    have hp := per_le hd
    have h3 := h.1.2.2.1
    simp only [dt h, Bool.not_true, cond_false, wireOf_impl hd h.1.2.1 (by omega) h.2, Option.bind_some, if_pos h]
    refine loop_upto (1 + wTrk d n % 2).toNat (fun k => (reach d n k, (k : Int) + 1)) (fun k hk => ?_) ?_
    · dsimp only
      rw [wireLen_impl hk0]
      simp only [Option.bind_some]
      rw [dt (by omega), cond_true, stp_impl hd ht0 ht1 hdir (by omega)]
      simp only [Option.bind_some]
      rw [gapp_ok (by rw [reach_len]; simp; omega), reach_succ]
      simp only [Option.bind_some]
      rw [wrap_ok (by omega)]
      rfl
    · dsimp only
      rw [wireLen_impl hk0]
      simp only [Option.bind_some]
      rw [df (by omega), cond_false]
      rfl
  · rw [df h, if_neg h]; rfl
theorem reaches_len (d : Int × (Int × (Int × Int))) (n : Int) : (reaches d n).length ≤ 2 := by
  unfold reaches; split
  · rw [reach_len]; omega
  · simp

def wcnt (d : Int × (Int × (Int × Int))) (ns : List Int) (k : Nat) : Int := (((ns.take k).countP (fun n => decide (isWireP d n)) : Nat) : Int)
theorem wcnt_le (d : Int × (Int × (Int × Int))) (ns : List Int) (k : Nat) : 0 ≤ wcnt d ns k ∧ wcnt d ns k ≤ k := by
  unfold wcnt
  have h1 := List.countP_le_length (p := fun n => decide (isWireP d n)) (l := ns.take k)
  have h2 : (ns.take k).length ≤ k := by rw [List.length_take]; omega
  omega
theorem wcnt_succ (d : Int × (Int × (Int × Int))) (ns : List Int) (k : Nat) (h : k < ns.length) : wcnt d ns (k + 1) = wcnt d ns k + (if isWireP d ns[k] then 1 else 0) := by
  unfold wcnt
  rw [take_succ' ns k h, List.countP_append]
  by_cases hw : isWireP d ns[k]
  · simp [hw]
  · simp [hw]
theorem wireCount_spec (d : Int × (Int × (Int × Int))) (ns vs : List Int) (hl : ns.length ≤ 1048576) : spec_WireCount (d, (ns, vs)) = some (wcnt d ns ns.length) := by
  unfold spec_WireCount
  refine loop_upto ns.length (fun k => (wcnt d ns k, (k : Int))) (fun k hk => ?_) ?_
  · dsimp only
    have hc := wcnt_le d ns k
    rw [dt (by omega), cond_true, gget_nat hk]
    simp only [Option.bind_some, isWire_spec]
    rw [wcnt_succ d ns k hk]
    by_cases hw : isWireP d ns[k]
    · rw [dt hw, if_pos hw]
      have e : spec_l07Bit true = some 1 := rfl
      simp only [e, Option.bind_some]
      rw [wrap_ok (by omega), wrap_ok (by omega)]; rfl
    · rw [df hw, if_neg hw]
      have e : spec_l07Bit false = some 0 := rfl
      simp only [e, Option.bind_some]
      rw [wrap_ok (by omega), wrap_ok (by omega)]; rfl
  · dsimp only
    rw [df (by omega), cond_false]; rfl
theorem wireCount_impl (d : Int × (Int × (Int × Int))) (ns vs : List Int) (hl : ns.length ≤ 1048576) : impl_WireCount (d, (ns, vs)) = some (wcnt d ns ns.length) := by
  unfold impl_WireCount
  refine loop_upto ns.length (fun k => (wcnt d ns k, (k : Int))) (fun k hk => ?_) ?_
  · dsimp only
    have hc := wcnt_le d ns k
    rw [dt (by omega), cond_true, gget_nat hk]
    simp only [Option.bind_some, isWire_impl]
    rw [wcnt_succ d ns k hk]
    by_cases hw : isWireP d ns[k]
    · rw [dt hw, if_pos hw, cond_true, wrap_ok (by omega), wrap_ok (by omega)]; rfl
    · rw [df hw, if_neg hw, cond_false, wrap_ok (by omega), Int.add_zero]; rfl
  · dsimp only
    rw [df (by omega), cond_false]; rfl
end Go.Pf
