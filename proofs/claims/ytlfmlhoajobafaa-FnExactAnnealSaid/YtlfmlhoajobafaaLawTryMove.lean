/-
  Own work. The law of a tried move, plainly: it says true.
-/
import Derived.Test.YtlfmlhoajobafaaPla
import Derived.Test.YtlfmlhoajobafaaHlp
namespace Go.Pf
open Go Go.Pu
def mvF (t q p : Int) : Int := if p = t then q else p
def mv (ps : List Int) (t q : Int) (j : Nat) : List Int := (ps.take j).map (mvF t q) ++ ps.drop j
theorem mv_len (ps : List Int) (t q : Int) (j : Nat) (h : j ≤ ps.length) : (mv ps t q j).length = ps.length := by
  unfold mv; simp; omega
theorem mv_get (ps : List Int) (t q : Int) (j i : Nat) : (mv ps t q j)[i]? = if i < j then (ps[i]?).map (mvF t q) else ps[i]? := by
  unfold mv
  by_cases h : i < j
  · rw [if_pos h]
    by_cases hi : i < ps.length
    · rw [List.getElem?_append_left (by simp; omega), List.getElem?_map, List.getElem?_take, if_pos h]
    · rw [List.getElem?_eq_none (by simp; omega), List.getElem?_eq_none (by omega)]; rfl
  · rw [if_neg h]
    by_cases hj : j ≤ ps.length
    · rw [List.getElem?_append_right (by simp; omega), List.getElem?_drop]
      congr 1
      simp; omega
    · rw [List.getElem?_eq_none (by simp; omega), List.getElem?_eq_none (by omega)]
theorem mv_succ (ps : List Int) (t q : Int) (j : Nat) (h : j < ps.length) : mv ps t q (j + 1) = (mv ps t q j).set j (mvF t q ps[j]) := by
  apply List.ext_getElem?
  intro i
  rw [mv_get]
  by_cases hi : i = j
  · subst hi
    rw [List.getElem?_set_self (by rw [mv_len _ _ _ _ (by omega)]; exact h), if_pos (by omega), List.getElem?_eq_getElem h]; rfl
  · rw [List.getElem?_set_ne (by omega), mv_get]
    by_cases hj : i < j
    · rw [if_pos hj, if_pos (by omega)]
    · rw [if_neg hj, if_neg (by omega)]
theorem mv_same (ps : List Int) (t q : Int) (j : Nat) (h : j < ps.length) (hn : ps[j] ≠ t) : mv ps t q (j + 1) = mv ps t q j := by
  apply List.ext_getElem?
  intro i
  rw [mv_get, mv_get]
  by_cases hi : i = j
  · subst hi
    rw [if_pos (by omega), if_neg (by omega), List.getElem?_eq_getElem h]
    simp [mvF, hn]
  · by_cases hj : i < j
    · rw [if_pos hj, if_pos (by omega)]
    · rw [if_neg hj, if_neg (by omega)]
theorem gget_of {xs : List Int} {i : Nat} {v : Int} (h : xs[i]? = some v) : gget 0 xs (i : Int) = some v := by
  have hi : i < xs.length := by
    rcases Nat.lt_or_ge i xs.length with q | q
    · exact q
    · rw [List.getElem?_eq_none q] at h; cases h
  rw [gget_nat hi]
  rw [List.getElem?_eq_getElem hi] at h; exact h
theorem mv_at (ps : List Int) (t : Int) (j i : Nat) (hi : i < ps.length) : (mv ps t ps[i] j)[i]? = some ps[i] := by
  rw [mv_get, List.getElem?_eq_getElem hi]
  split
  · simp [mvF]
  · rfl
theorem mv_cur (ps : List Int) (t q : Int) (j : Nat) (hj : j < ps.length) : (mv ps t q j)[j]? = some ps[j] := by
  rw [mv_get, if_neg (by omega), List.getElem?_eq_getElem hj]
def tm (d : Dev) (bs ps : List Int) (i t : Int) : List Int × Bool :=
  if _h : placeP d bs ps = true ∧ (0 ≤ i ∧ i < (ps.length : Int)) ∧ tk d t = bt (bs.getD i.toNat 0) then
    ((mv ps t (ps.getD i.toNat 0) ps.length).set i.toNat t, true) else (ps, false)
theorem tm_len (d : Dev) (bs ps : List Int) (i t : Int) : (tm d bs ps i t).1.length = ps.length := by
  unfold tm; split
  · simp [mv_len]
  · rfl
theorem placeP_len {d : Dev} {bs ps : List Int} (h : placeP d bs ps = true) : DOk d ∧ bs.length ≤ 64 ∧ ps.length = bs.length := by
  unfold placeP at h; rw [Bool.and_eq_true] at h; exact of_decide_eq_true h.1
theorem placeP_at {d : Dev} {bs ps : List Int} (h : placeP d bs ps = true) (k : Nat) (h1 : k < bs.length) (h2 : k < ps.length) : 0 ≤ tk d ps[k] ∧ tk d ps[k] = bt bs[k] := by
  unfold placeP at h; rw [Bool.and_eq_true, List.all_eq_true] at h
  have := h.2 k (List.mem_range.2 h1)
  unfold plOk at this
  rw [dif_pos ⟨h1, h2⟩] at this
  have := of_decide_eq_true this
  exact ⟨this.1, this.2.1⟩
theorem copy_ok (ps : List Int) (h : ps.length ≤ 1048576) : gapp 8 ([] : List Int) ps = some ps := gapp_some (by simp; omega) (by simp; omega)
theorem copy_impl (ps : List Int) (h : ps.length ≤ 1048576) : impl_copyInts ps = some ps := by
  unfold impl_copyInts
  simp only [copy_ok ps h, Option.bind_some]
theorem getD_at {xs : List Int} {i : Nat} (h : i < xs.length) : xs.getD i 0 = xs[i] := by rw [List.getD, List.getElem?_eq_getElem h]; rfl
theorem tm_spec (d : Dev) (bs ps : List Int) (i t : Int) (hp : ∀ p ∈ ps, p ≤ 9223372036854775807) (ht : t ≤ 9223372036854775807) (hl : ps.length ≤ 1048576) : spec_TryMove (d, (bs, (ps, (i, t)))) = some (tm d bs ps i t) := by
  unfold spec_TryMove tm
  dsimp only
  rw [copy_ok ps hl, place_spec d bs ps hp]
  simp only [Option.bind_some]
  by_cases h0 : placeP d bs ps = true
  rotate_left
  · rw [dif_neg (fun e => h0 e.1)]
    rw [Bool.not_eq_true] at h0
    rw [h0]; rfl
  rw [h0]
  obtain ⟨hd, hb, hlen⟩ := placeP_len h0
  simp only [Bool.not_true, cond_false]
  by_cases h1 : i < 0
  · rw [dt h1, cond_true, dif_neg (by intro e; omega)]
  rw [df h1, cond_false]
  by_cases h2 : (ps.length : Int) ≤ i
  · rw [dt h2, cond_true, dif_neg (by intro e; omega)]
  rw [df h2, cond_false]
  obtain ⟨k, rfl⟩ : ∃ k : Nat, i = (k : Int) := ⟨i.toNat, by omega⟩
  have hk : k < ps.length := by omega
  have hkb : k < bs.length := by omega
  obtain ⟨a1, a2⟩ := placeP_at h0 k hkb hk
  rw [tk_spec d t ht, gget_nat hkb, Int.toNat_natCast, getD_at hkb, getD_at hk]
  simp only [Option.bind_some, bt_spec]
  by_cases h3 : tk d t < 0
  · rw [dt h3, cond_true, dif_neg (by intro e; omega)]
  rw [df h3, cond_false]
  by_cases h4 : tk d t = bt bs[k]
  · rw [df (by omega), cond_false, dif_pos ⟨trivial, by omega, h4⟩]
    refine loop_upto ps.length (fun j => ((j : Int), mv ps t ps[k] j)) (fun j hj => ?_) ?_
    · dsimp only
      rw [mv_len _ _ _ _ (by omega), dt (by omega), cond_true, gin_nat hj, gget_of (mv_cur ps t ps[k] j hj)]
      simp only [Option.bind_some]
      rw [wrap_ok (z := (j : Int) + 1) (by omega)]
      by_cases q : ps[j] = t
      · rw [dt q, cond_true, gget_nat hk, mv_succ _ _ _ _ hj]
        simp only [Option.bind_some]
        have e : mvF t ps[k] ps[j] = ps[k] := by unfold mvF; rw [if_pos q]
        rw [e, gset_nat]; rfl
      · rw [df q, cond_false, mv_same _ _ _ _ hj q]; rfl
    · dsimp only
      rw [mv_len _ _ _ _ (Nat.le_refl _), df (by omega), cond_false, gin_nat hk, gget_of (mv_at ps t _ k hk)]
      simp only [Option.bind_some]
      rw [gset_nat]; rfl
  · rw [dt h4, cond_true, dif_neg (by intro e; exact h4 e.2.2)]
theorem tm_impl (d : Dev) (bs ps : List Int) (i t : Int) (hp : ∀ p ∈ ps, p ≤ 9223372036854775807) (ht : t ≤ 9223372036854775807) (hl : ps.length ≤ 1048576) : impl_TryMove (d, (bs, (ps, (i, t)))) = some (tm d bs ps i t) := by
  unfold impl_TryMove tm
  dsimp only
  rw [place_impl d bs ps hp]
  simp only [Option.bind_some]
  by_cases h0 : placeP d bs ps = true
  rotate_left
  · rw [dif_neg (fun e => h0 e.1)]
    rw [Bool.not_eq_true] at h0
    rw [h0]
    simp only [Bool.not_false, cond_true, copy_impl ps hl, Option.bind_some]
  rw [h0]
  obtain ⟨hd, hb, hlen⟩ := placeP_len h0
  simp only [Bool.not_true, cond_false]
  rw [wrap_ok (by omega), inR_impl]
  simp only [Option.bind_some]
  by_cases h1 : 0 ≤ i ∧ i ≤ (bs.length : Int) - 1
  rotate_left
  · rw [df h1, dif_neg (by intro e; omega)]
    simp only [Bool.not_false, cond_true, copy_impl ps hl, Option.bind_some]
  rw [dt h1]
  simp only [Bool.not_true, cond_false]
  obtain ⟨k, rfl⟩ : ∃ k : Nat, i = (k : Int) := ⟨i.toNat, by omega⟩
  have hk : k < ps.length := by omega
  have hkb : k < bs.length := by omega
  obtain ⟨a1, a2⟩ := placeP_at h0 k hkb hk
  rw [tk_impl d t ht, gget_nat hkb, Int.toNat_natCast, getD_at hkb, getD_at hk]
  simp only [Option.bind_some, bt_impl]
  by_cases h4 : tk d t = bt bs[k]
  · rw [df (by omega), cond_false, dif_pos ⟨trivial, by omega, h4⟩]
    have key : impl_tryMove (ps, ((k : Int), t)) = some ((mv ps t ps[k] ps.length).set k t) := by
      unfold impl_tryMove
      simp only [copy_impl ps hl, Option.bind_some]
      refine loop_upto ps.length (fun j => ((j : Int), mv ps t ps[k] j)) (fun j hj => ?_) ?_
      · dsimp only
        rw [mv_len _ _ _ _ (by omega), dt (by omega), cond_true, gin_nat hj, gget_of (mv_cur ps t ps[k] j hj)]
        simp only [Option.bind_some]
        rw [wrap_ok (z := (j : Int) + 1) (by omega)]
        by_cases q : ps[j] = t
        · rw [dt q, cond_true, gin_nat hk, gget_of (mv_at ps t j k hk), mv_succ _ _ _ _ hj]
          simp only [Option.bind_some]
          have e : mvF t ps[k] ps[j] = ps[k] := by unfold mvF; rw [if_pos q]
          rw [e, gset_nat]; rfl
        · rw [df q, cond_false, mv_same _ _ _ _ hj q]; rfl
      · dsimp only
        rw [mv_len _ _ _ _ (Nat.le_refl _), df (by omega), cond_false, gin_nat hk, gget_of (mv_at ps t _ k hk)]
        simp only [Option.bind_some]
        rw [gset_nat]; rfl
    rw [key]; rfl
  · rw [dt h4, cond_true, dif_neg (by intro e; exact h4 e.2.2)]
    simp only [copy_impl ps hl, Option.bind_some]
theorem law_FnExactTryMove (x : ((Int × (Int × (Int × Int))) × (List Int × (List Int × (Int × Int))))) (h : InR (tP (tP tI (tP tI (tP tI tI))) (tP (tS 0 tI) (tP (tS 0 tI) (tP tI tI)))) x) : laws_FnExactTryMove x = some true := by
  obtain ⟨d, bs, ps, i, t⟩ := x
  obtain ⟨_, _, ⟨_, hp⟩, _, _, ht⟩ := h
  have hp : ∀ p ∈ ps, p ≤ 9223372036854775807 := fun p hm => (hp p hm).2
  unfold laws_FnExactTryMove laws_toDevice
  simp only
  by_cases h1 : 1048576 < (bs.length : Int)
  · rw [dt h1]; rfl
  rw [df h1, cond_false]
  by_cases h2 : 1048576 < (ps.length : Int)
  · rw [dt h2]; rfl
  rw [df h2, cond_false]
  have hlen := tm_len d bs ps i t
  have ho : (tm d bs ps i t).1.length ≤ 1048576 := by omega
  simp only [toIntS_ok bs (by omega), toIntS_ok ps (by omega), Option.bind_some, tm_spec d bs ps i t hp ht (by omega), tm_impl d bs ps i t hp ht (by omega), beq_self_eq_true, Bool.xor_self, cond_false, eqIntS_ok bs bs (by omega), eqIntS_ok ps ps (by omega), eqIntS_ok (tm d bs ps i t).1 (tm d bs ps i t).1 (by omega), decide_true, Bool.not_true]
  rw [markIntS_ok bs 1 (by omega) (by omega) (by omega)]
  simp only [Option.bind_some]
  rw [markIntS_ok ps (1 + (bs.length : Int)) (by omega) (by omega) (by omega), markIntS_ok (tm d bs ps i t).1 1 (by omega) (by omega) ho]
  simp only [Option.bind_some, df (show ¬ (1 + (bs.length : Int) + (ps.length : Int) < 0) by omega), heldIntS_ok 1 (tm d bs ps i t).1.length (by omega) (by omega) ho, df (show ¬ (1 + ((tm d bs ps i t).1.length : Int) < 0) by omega), cond_false, ne_eq, not_true_eq_false, decide_false]
end Go.Pf
