/-
  Own work. The law of the nearest free tile, plainly: it says true.
-/
import Derived.Test.YtnlcnnmdalgibaaPla
import Derived.Test.YtnlcnnmdalgibaaHlp
namespace Go.Pf
open Go Go.Pu
def tilesTo (d : Dev) (k : Int) (n : Nat) : List Int := ((List.range n).map fun (t : Nat) => (t : Int)).filter fun t => decide (tkp d t = k)
theorem tilesTo_succ (d : Dev) (k : Int) (n : Nat) : tilesTo d k (n + 1) = if tkp d n = k then tilesTo d k n ++ [(n : Int)] else tilesTo d k n := by
  unfold tilesTo
  rw [List.range_succ, List.map_append, List.filter_append]
  by_cases h : tkp d n = k
  · rw [if_pos h]; simp [h]
  · rw [if_neg h]; simp [h]
theorem tilesTo_len (d : Dev) (k : Int) (n : Nat) : (tilesTo d k n).length ≤ n := by
  unfold tilesTo
  refine Nat.le_trans (List.length_filter_le _ _) ?_
  simp
theorem tilesTo_mem {d : Dev} {k : Int} {n : Nat} {t : Int} (h : t ∈ tilesTo d k n) : 0 ≤ t ∧ t < n := by
  unfold tilesTo at h
  obtain ⟨j, hj, rfl⟩ := List.mem_map.1 (List.mem_filter.1 h).1
  have := List.mem_range.1 hj
  omega
def tilesP (d : Dev) (k : Int) : List Int := if DOk d then tilesTo d k (d.1 * d.2.1).toNat else []
theorem tiles_spec (d : Dev) (k : Int) : spec_TilesOf (d, k) = some (tilesP d k) := by
  unfold spec_TilesOf tilesP
  simp only [devOk_spec, Option.bind_some]
  by_cases h : DOk d
  · rw [dt h, if_pos h]
    simp only [Bool.not_true, cond_false]
    have hm := mul_le36 h.1 h.2.1
    refine loop_upto (d.1 * d.2.1).toNat (fun n => ((n : Int), tilesTo d k n)) (fun n hn => ?_) ?_
    · have hl := tilesTo_len d k n
      have e : tk d n = tkp d n := by unfold tk; rw [if_pos ⟨h, by omega, by omega⟩]
      dsimp only
      rw [wrap_ok (z := d.1 * d.2.1) (by omega), dt (by omega), cond_true, tk_spec d n (by omega), e, tilesTo_succ]
      simp only [Option.bind_some]
      by_cases q : tkp d n = k
      · rw [dt q, cond_true, if_pos q, gapp_some (by simp; omega) (by simp; omega)]
        simp only [Option.bind_some]
        rw [wrap_ok (by omega)]; rfl
      · rw [df q, cond_false, if_neg q, wrap_ok (by omega)]; rfl
    · dsimp only
      rw [wrap_ok (z := d.1 * d.2.1) (by omega), df (by omega), cond_false]; rfl
  · rw [df h, if_neg h]; rfl
theorem tiles_impl (d : Dev) (k : Int) : impl_TilesOf (d, k) = some (tilesP d k) := by
  unfold impl_TilesOf tilesP
  simp only [devOk_impl, Option.bind_some]
  by_cases h : DOk d
  · rw [dt h, if_pos h]
    simp only [Bool.not_true, cond_false]
    have hm := mul_le36 h.1 h.2.1
    refine loop_upto (d.1 * d.2.1).toNat (fun n => (tilesTo d k n, (n : Int))) (fun n hn => ?_) ?_
    · have hl := tilesTo_len d k n
      dsimp only
      rw [wrap_ok (z := d.1 * d.2.1) (by omega), dt (by omega), cond_true, tileKind_impl d n h (by omega) (by omega), tilesTo_succ]
      simp only [Option.bind_some]
      by_cases q : tkp d n = k
      · rw [dt q, cond_true, if_pos q, gapp_some (by simp; omega) (by simp; omega)]
        simp only [Option.bind_some]
        rw [wrap_ok (by omega)]; rfl
      · rw [df q, cond_false, if_neg q, wrap_ok (by omega)]; rfl
    · dsimp only
      rw [wrap_ok (z := d.1 * d.2.1) (by omega), df (by omega), cond_false]; rfl
  · rw [df h, if_neg h]; rfl
theorem tilesP_len (d : Dev) (k : Int) : (tilesP d k).length ≤ 36 := by
  unfold tilesP
  split
  · rename_i h
    have hm := mul_le36 h.1 h.2.1
    have := tilesTo_len d k (d.1 * d.2.1).toNat
    omega
  · simp
theorem tilesP_mem {d : Dev} {k t : Int} (h : t ∈ tilesP d k) : DOk d ∧ 0 ≤ t ∧ t < d.1 * d.2.1 := by
  unfold tilesP at h
  split at h
  · rename_i q
    have hm := mul_le36 q.1 q.2.1
    have := tilesTo_mem h
    exact ⟨q, by omega, by omega⟩
  · cases h
theorem sq_le {x : Int} (h : -600 ≤ x ∧ x ≤ 600) : 0 ≤ x * x ∧ x * x ≤ 360000 := by
  by_cases q : 0 ≤ x
  · have h1 : x * x ≤ 600 * 600 := Int.mul_le_mul h.2 h.2 q (by omega)
    have h2 : 0 ≤ x * x := Int.mul_nonneg q q
    omega
  · have e : x * x = (-x) * (-x) := by rw [Int.neg_mul_neg]
    have h1 : (-x) * (-x) ≤ 600 * 600 := Int.mul_le_mul (by omega) (by omega) (by omega) (by omega)
    have h2 : 0 ≤ (-x) * (-x) := Int.mul_nonneg (by omega) (by omega)
    omega
def dst (d : Dev) (x y t : Int) : Int := (100 * (t % d.1) - x) * (100 * (t % d.1) - x) + (100 * (t / d.1) - y) * (100 * (t / d.1) - y)
def nfS (d : Dev) (x y : Int) (us : List Int) (s : Int × Int) (t : Int) : Int × Int :=
  if t ∈ us then s else if s.1 < 0 then (t, dst d x y t) else if dst d x y t < s.2 then (t, dst d x y t) else s
def nfT (d : Dev) (x y : Int) (us ts : List Int) (j : Nat) : Int × Int := (ts.take j).foldl (nfS d x y us) (-1, 0)
theorem nfT_succ (d : Dev) (x y : Int) (us ts : List Int) (j : Nat) (h : j < ts.length) : nfT d x y us ts (j + 1) = nfS d x y us (nfT d x y us ts j) ts[j] := by
  unfold nfT; rw [take_succ' ts j h, List.foldl_append]; rfl
def nfP (d : Dev) (k x y : Int) (us : List Int) : Int := if (0 ≤ x ∧ x ≤ 600) ∧ (0 ≤ y ∧ y ≤ 600) then (nfT d x y us (tilesP d k) (tilesP d k).length).1 else -1
theorem nf_xy {d : Dev} {t x y : Int} (h : DOk d ∧ 0 ≤ t ∧ t < d.1 * d.2.1) (hx : 0 ≤ x ∧ x ≤ 600) (hy : 0 ≤ y ∧ y ≤ 600) :
    (0 ≤ t % d.1 ∧ t % d.1 ≤ 5) ∧ (0 ≤ t / d.1 ∧ t / d.1 ≤ 5) ∧ (0 ≤ (100 * (t % d.1) - x) * (100 * (t % d.1) - x) ∧ (100 * (t % d.1) - x) * (100 * (t % d.1) - x) ≤ 360000) ∧ (0 ≤ (100 * (t / d.1) - y) * (100 * (t / d.1) - y) ∧ (100 * (t / d.1) - y) * (100 * (t / d.1) - y) ≤ 360000) := by
  obtain ⟨hd, h0, h1⟩ := h
  have hw := hd.1
  have hh := hd.2.1
  have e1 : 0 ≤ t % d.1 := Int.emod_nonneg _ (by omega)
  have e2 : t % d.1 < d.1 := Int.emod_lt_of_pos _ (by omega)
  have e3 : 0 ≤ t / d.1 := Int.ediv_nonneg h0 (by omega)
  have e4 : t / d.1 < d.2.1 := Int.ediv_lt_of_lt_mul (by omega) (by rw [Int.mul_comm]; exact h1)
  exact ⟨by omega, by omega, sq_le (by omega), sq_le (by omega)⟩
theorem nf_spec (d : Dev) (k x y : Int) (us : List Int) (hu : us.length ≤ 1048576) : spec_NearestFree (d, (k, (x, (y, us)))) = some (nfP d k x y us) := by
  unfold spec_NearestFree nfP
  dsimp only
  rw [inR_spec, tiles_spec]
  simp only [Option.bind_some]
  rw [inR_spec]
  simp only [Option.bind_some]
  by_cases hx : 0 ≤ x ∧ x ≤ 600
  · by_cases hy : 0 ≤ y ∧ y ≤ 600
    · rw [dt hx, dt hy, if_pos ⟨hx, hy⟩]
      simp only [Bool.not_true, cond_false]
      have hl := tilesP_len d k
      generalize hts : tilesP d k = ts at hl ⊢
      refine loop_upto ts.length (fun j => ((nfT d x y us ts j).1, ((nfT d x y us ts j).2, (j : Int)))) (fun j hj => ?_) ?_
      · have hm := tilesP_mem (d := d) (k := k) (t := ts[j]) (by rw [hts]; exact List.getElem_mem hj)
        obtain ⟨q1, q2, q3, q4⟩ := nf_xy hm hx hy
        have hmul := mul_le36 hm.1.1 hm.1.2.1
        have hw := hm.1.1
        dsimp only
        rw [dt (by omega), cond_true, gin_nat hj, gget_nat hj]
        simp only [Option.bind_some]
        rw [grem_nn hm.2.1 (by omega), gdiv_nn hm.2.1 (by omega) (by omega)]
        simp only [Option.bind_some]
        rw [wrap_ok (z := 100 * (ts[j] % d.1)) (by omega), wrap_ok (z := 100 * (ts[j] % d.1) - x) (by omega), wrap_ok (z := 100 * (ts[j] / d.1)) (by omega), wrap_ok (z := 100 * (ts[j] / d.1) - y) (by omega), wrap_ok (z := (100 * (ts[j] % d.1) - x) * (100 * (ts[j] % d.1) - x)) (by omega), wrap_ok (z := (100 * (ts[j] / d.1) - y) * (100 * (ts[j] / d.1) - y)) (by omega)]
        rw [wrap_ok (z := (100 * (ts[j] % d.1) - x) * (100 * (ts[j] % d.1) - x) + (100 * (ts[j] / d.1) - y) * (100 * (ts[j] / d.1) - y)) (by omega), has_spec us _ (by omega), wrap_ok (z := (j : Int) + 1) (by omega), nfT_succ d x y us ts j hj]
        simp only [Option.bind_some]
        unfold nfS
        by_cases c1 : ts[j] ∈ us
        · rw [dt c1, if_pos c1]; rfl
        rw [df c1, if_neg c1]
        simp only [Bool.not_false, cond_true]
        by_cases c2 : (nfT d x y us ts j).1 < 0
        · rw [dt c2, if_pos c2]; rfl
        rw [df c2, if_neg c2, cond_false]
        by_cases c3 : dst d x y ts[j] < (nfT d x y us ts j).2
        · rw [dt (show (100 * (ts[j] % d.1) - x) * (100 * (ts[j] % d.1) - x) + (100 * (ts[j] / d.1) - y) * (100 * (ts[j] / d.1) - y) < (nfT d x y us ts j).2 from c3), if_pos c3]; rfl
        · rw [df (show ¬ (100 * (ts[j] % d.1) - x) * (100 * (ts[j] % d.1) - x) + (100 * (ts[j] / d.1) - y) * (100 * (ts[j] / d.1) - y) < (nfT d x y us ts j).2 from c3), if_neg c3]; rfl
      · dsimp only
        rw [df (by omega), cond_false]; rfl
    · rw [dt hx, df hy, if_neg (fun e => hy e.2)]; rfl
  · rw [df hx, if_neg (fun e => hx e.1)]; rfl
theorem nf_impl (d : Dev) (k x y : Int) (us : List Int) (hu : us.length ≤ 1048576) : impl_NearestFree (d, (k, (x, (y, us)))) = some (nfP d k x y us) := by
  unfold impl_NearestFree nfP
  dsimp only
  rw [devOk_impl]
  simp only [Option.bind_some]
  by_cases hd : DOk d
  rotate_left
  · rw [df hd]
    have e : tilesP d k = [] := by unfold tilesP; rw [if_neg hd]
    rw [e]
    by_cases hc : (0 ≤ x ∧ x ≤ 600) ∧ (0 ≤ y ∧ y ≤ 600)
    · rw [if_pos hc]; rfl
    · rw [if_neg hc]; rfl
  rw [inR_impl, tiles_impl]
  simp only [Option.bind_some]
  rw [inR_impl]
  simp only [Option.bind_some]
  rw [dt hd]
  by_cases hx : 0 ≤ x ∧ x ≤ 600
  · by_cases hy : 0 ≤ y ∧ y ≤ 600
    · rw [dt hx, dt hy, if_pos ⟨hx, hy⟩]
      simp only [Bool.not_true, cond_false]
      have hl := tilesP_len d k
      generalize hts : tilesP d k = ts at hl ⊢
      refine loop_upto ts.length (fun j => ((j : Int), nfT d x y us ts j)) (fun j hj => ?_) ?_
      · have hm := tilesP_mem (d := d) (k := k) (t := ts[j]) (by rw [hts]; exact List.getElem_mem hj)
        obtain ⟨q1, q2, q3, q4⟩ := nf_xy hm hx hy
        have hmul := mul_le36 hm.1.1 hm.1.2.1
        have hw := hm.1.1
        dsimp only
        rw [dt (by omega), cond_true, gin_nat hj, gget_nat hj]
        simp only [Option.bind_some]
        rw [has_impl us _ (by omega), grem_nn hm.2.1 (by omega), gdiv_nn hm.2.1 (by omega) (by omega)]
        simp only [Option.bind_some]
        rw [wrap_ok (z := 100 * (ts[j] % d.1)) (by omega), wrap_ok (z := 100 * (ts[j] % d.1) - x) (by omega), wrap_ok (z := 100 * (ts[j] / d.1)) (by omega), wrap_ok (z := 100 * (ts[j] / d.1) - y) (by omega), wrap_ok (z := (100 * (ts[j] % d.1) - x) * (100 * (ts[j] % d.1) - x)) (by omega), wrap_ok (z := (100 * (ts[j] / d.1) - y) * (100 * (ts[j] / d.1) - y)) (by omega)]
        rw [wrap_ok (z := (100 * (ts[j] % d.1) - x) * (100 * (ts[j] % d.1) - x) + (100 * (ts[j] / d.1) - y) * (100 * (ts[j] / d.1) - y)) (by omega), wrap_ok (z := (j : Int) + 1) (by omega), nfT_succ d x y us ts j hj]
        unfold nfS
        by_cases c1 : ts[j] ∈ us
        · rw [dt c1, if_pos c1]; rfl
        rw [df c1, if_neg c1]
        simp only [cond_false]
        by_cases c2 : (nfT d x y us ts j).1 < 0
        · rw [dt c2, if_pos c2]; rfl
        rw [df c2, if_neg c2, cond_false]
        by_cases c3 : dst d x y ts[j] < (nfT d x y us ts j).2
        · rw [dt (show (100 * (ts[j] % d.1) - x) * (100 * (ts[j] % d.1) - x) + (100 * (ts[j] / d.1) - y) * (100 * (ts[j] / d.1) - y) < (nfT d x y us ts j).2 from c3), if_pos c3]; rfl
        · rw [df (show ¬ (100 * (ts[j] % d.1) - x) * (100 * (ts[j] % d.1) - x) + (100 * (ts[j] / d.1) - y) * (100 * (ts[j] / d.1) - y) < (nfT d x y us ts j).2 from c3), if_neg c3]; rfl
      · dsimp only
        rw [df (by omega), cond_false]; rfl
    · rw [dt hx, df hy, if_neg (fun e => hy e.2)]; rfl
  · rw [df hx, if_neg (fun e => hx e.1)]; rfl
end Go.Pf

