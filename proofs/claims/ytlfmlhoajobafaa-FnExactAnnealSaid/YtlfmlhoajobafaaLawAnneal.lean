/-
  Own work. The law, plainly: it says true.
-/
import Derived.Test.YtlfmlhoajobafaaLawTryMove
import Derived.Test.YtlfmlhoajobafaaLawNearestFree
import Derived.Test.YtlfmlhoajobafaaLawPlaceCost
import Derived.Test.YtlfmlhoajobafaaMcs
namespace Go.Pf
open Go Go.Pu
set_option linter.unusedVariables false

/-! ### Two loops over different states that go alike -/
theorem loop_rel {σ τ ω : Type} {f : σ → Option (σ ⊕ ω)} {g : τ → Option (τ ⊕ ω)} (I : σ → τ → Prop) (Q : ω → Prop) (μ : σ → Nat) (h : ∀ s t, I s t → (∃ s' t', f s = some (.inl s') ∧ g t = some (.inl t') ∧ I s' t' ∧ μ s' < μ s) ∨ (∃ o, f s = some (.inr o) ∧ g t = some (.inr o) ∧ Q o)) :
    ∀ s t, I s t → ∃ o, loop f s = some o ∧ loop g t = some o ∧ Q o := by
  have key : ∀ n s t, μ s < n → I s t → ∃ o, loop f s = some o ∧ loop g t = some o ∧ Q o := by
    intro n
    induction n with
    | zero => intro s t hs; omega
    | succ n ih =>
      intro s t hs hi
      rcases h s t hi with ⟨s', t', h1, h2, h3, h4⟩ | ⟨o, h1, h2, h3⟩
      · obtain ⟨o, h5, h6, h7⟩ := ih s' t' (by omega) h3
        exact ⟨o, by rw [loop_eq, h1]; exact h5, by rw [loop_eq, h2]; exact h6, h7⟩
      · exact ⟨o, by rw [loop_eq, h1], by rw [loop_eq, h2], h3⟩
  exact fun s t hi => key _ s t (Nat.lt_succ_self _) hi

/-! ### Random numbers -/
theorem gand_r (a : Int) : 0 ≤ gand .i64 a 2147483647 ∧ gand .i64 a 2147483647 ≤ 2147483647 := by
  unfold gand
  have h : (BitVec.ofInt IntKind.i64.bits a &&& BitVec.ofInt IntKind.i64.bits 2147483647).toNat ≤ 2147483647 := by
    rw [BitVec.toNat_and]
    have : (BitVec.ofInt IntKind.i64.bits 2147483647).toNat = 2147483647 := by decide
    rw [this]
    exact Nat.and_le_right
  rw [wrap_ok (by omega)]
  omega
def rndP (a : Int) : Int := gand .i64 (wrap .i64 (wrap .i64 (1103515245 * gand .i64 a 2147483647) + 12345)) 2147483647
theorem rnd_spec (a : Int) : spec_NextRandom a = some (rndP a) := rfl
theorem rnd_impl (a : Int) : impl_NextRandom a = some (rndP a) := rfl
theorem rnd_ex (a : Int) : ∃ b, spec_NextRandom a = some b ∧ impl_NextRandom a = some b ∧ 0 ≤ b ∧ b ≤ 2147483647 := ⟨rndP a, rfl, rfl, gand_r _⟩
theorem rndP_r (a : Int) : 0 ≤ rndP a ∧ rndP a ≤ 2147483647 := gand_r _

/-! ### A move keeps a placement right -/
theorem place_iff {d : Dev} {bs ps : List Int} : placeP d bs ps = true ↔ (DOk d ∧ bs.length ≤ 64 ∧ ps.length = bs.length) ∧ (∀ k (h1 : k < bs.length) (h2 : k < ps.length), 0 ≤ tk d ps[k] ∧ tk d ps[k] = bt bs[k]) ∧ ∀ j k (hj : j < k) (hk : k < ps.length), ps[j] ≠ ps[k] := by
  unfold placeP
  rw [Bool.and_eq_true, List.all_eq_true]
  constructor
  · rintro ⟨h1, h2⟩
    have h1 := of_decide_eq_true h1
    have key : ∀ k (q1 : k < bs.length) (q2 : k < ps.length), 0 ≤ tk d ps[k] ∧ tk d ps[k] = bt bs[k] ∧ ps[k] ∉ ps.take k := by
      intro k q1 q2
      have := h2 k (List.mem_range.2 q1)
      unfold plOk at this
      rw [dif_pos ⟨q1, q2⟩] at this
      exact of_decide_eq_true this
    refine ⟨h1, fun k q1 q2 => ⟨(key k q1 q2).1, (key k q1 q2).2.1⟩, fun j k hj hk e => ?_⟩
    refine (key k (by omega) hk).2.2 ?_
    rw [← e]
    exact List.mem_take_iff_getElem.2 ⟨j, by omega, rfl⟩
  · rintro ⟨h1, h2, h3⟩
    refine ⟨decide_eq_true h1, fun k hk => ?_⟩
    have hk := List.mem_range.1 hk
    unfold plOk
    rw [dif_pos ⟨hk, by omega⟩]
    have := h2 k hk (by omega)
    refine decide_eq_true ⟨this.1, this.2, fun q => ?_⟩
    obtain ⟨j, hj, e⟩ := List.mem_take_iff_getElem.1 q
    exact h3 j k (by omega) (by omega) e
def mvP (ps : List Int) (k : Nat) (t : Int) : List Int := (mv ps t (ps.getD k 0) ps.length).set k t
theorem mvP_len (ps : List Int) (k : Nat) (t : Int) : (mvP ps k t).length = ps.length := by unfold mvP; simp [mv_len]
theorem mvP_at (ps : List Int) (k : Nat) (t : Int) (hk : k < ps.length) (j : Nat) (hj : j < (mvP ps k t).length) (hj2 : j < ps.length) : (mvP ps k t)[j] = if j = k then t else if ps[j] = t then ps[k] else ps[j] := by
  have e : (mvP ps k t)[j]? = some (if j = k then t else if ps[j] = t then ps[k] else ps[j]) := by
    unfold mvP
    by_cases q : j = k
    · subst q
      rw [List.getElem?_set_self (by rw [mv_len _ _ _ _ (Nat.le_refl _)]; exact hk), if_pos rfl]
    · rw [List.getElem?_set_ne (by omega), mv_get, if_pos hj2, List.getElem?_eq_getElem hj2, if_neg q, getD_at hk]; rfl
  rw [List.getElem?_eq_getElem hj] at e
  exact Option.some.inj e
theorem move_keeps {d : Dev} {bs ps : List Int} (h : placeP d bs ps = true) {k : Nat} {t : Int} (hk : k < ps.length) (hkb : k < bs.length) (ht : tk d t = bt bs[k]) : placeP d bs (mvP ps k t) = true := by
  obtain ⟨h1, h2, h3⟩ := place_iff.1 h
  have hlen := mvP_len ps k t
  have hne : ∀ i j (hi : i < ps.length) (hj : j < ps.length), i ≠ j → ps[i] ≠ ps[j] := by
    intro i j hi hj hij
    rcases Nat.lt_or_gt_of_ne hij with q | q
    · exact h3 i j q hj
    · exact fun e => h3 j i q hi e.symm
  refine place_iff.2 ⟨⟨h1.1, h1.2.1, by omega⟩, fun j q1 q2 => ?_, fun i j hij hj => ?_⟩
  · have hj2 : j < ps.length := by omega
    rw [mvP_at ps k t hk j q2 hj2]
    have hk2 := h2 k hkb hk
    by_cases e1 : j = k
    · subst e1
      rw [if_pos rfl]
      exact ⟨by omega, ht⟩
    · rw [if_neg e1]
      by_cases e2 : ps[j] = t
      · rw [if_pos e2]
        have := h2 j q1 hj2
        rw [e2] at this
        omega
      · rw [if_neg e2]; exact h2 j q1 hj2
  · have hj2 : j < ps.length := by omega
    have hi2 : i < ps.length := by omega
    rw [mvP_at ps k t hk i (by omega) hi2, mvP_at ps k t hk j hj hj2]
    by_cases e1 : i = k
    · rw [if_pos e1, if_neg (by omega)]
      by_cases e2 : ps[j] = t
      · rw [if_pos e2]
        intro e
        exact hne j k hj2 hk (by omega) (by rw [e2, e])
      · rw [if_neg e2]; exact fun e => e2 e.symm
    · rw [if_neg e1]
      by_cases e3 : j = k
      · rw [if_pos e3]
        by_cases e2 : ps[i] = t
        · rw [if_pos e2]
          intro e
          exact hne i k hi2 hk e1 (by rw [e2, e])
        · rw [if_neg e2]; exact e2
      · rw [if_neg e3]
        by_cases e2 : ps[i] = t
        · rw [if_pos e2]
          have : ps[j] ≠ t := fun e => hne i j hi2 hj2 (by omega) (by rw [e2, e])
          rw [if_neg this]
          exact hne k j hk hj2 (by omega)
        · rw [if_neg e2]
          by_cases e4 : ps[j] = t
          · rw [if_pos e4]; exact hne i k hi2 hk e1
          · rw [if_neg e4]; exact hne i j hi2 hj2 (by omega)
theorem tryMove_impl {ps : List Int} {k : Nat} (hk : k < ps.length) (hl : ps.length ≤ 1048576) (t : Int) : impl_tryMove (ps, ((k : Int), t)) = some (mvP ps k t) := by
  unfold impl_tryMove mvP
  rw [getD_at hk]
  simp only [copy_impl ps hl, Option.bind_some]
  refine loop_upto ps.length (fun j => ((j : Int), mv ps t ps[k] j)) (fun j hj => ?_) ?_
  · dsimp only
    rw [mv_len _ _ _ _ (by omega), dt (by omega), cond_true, gin_nat hj, gget_of (mv_cur ps t ps[k] j hj)]
    simp only [Option.bind_some]
    rw [wrap_ok (z := (j : Int) + 1) (by omega)]
    by_cases q : ps[j] = t
    · rw [dt q, cond_true, gin_nat hk, gget_of (mv_at ps t j k hk), mv_succ _ _ _ _ hj]
      simp only [Option.bind_some]
      have e : mvF t ps[k] ps[j] = ps[k] := by unfold mvF; rw [if_pos q]
      rw [e, gset_nat]; rfl
    · rw [df q, cond_false, mv_same _ _ _ _ hj q]; rfl
  · dsimp only
    rw [mv_len _ _ _ _ (Nat.le_refl _), df (by omega), cond_false, gin_nat hk, gget_of (mv_at ps t _ k hk)]
    simp only [Option.bind_some]
    rw [gset_nat]; rfl
theorem tm_move {d : Dev} {bs ps : List Int} (h : placeP d bs ps = true) {k : Nat} {t : Int} (hk : k < ps.length) (hkb : k < bs.length) (ht : tk d t = bt bs[k]) : tm d bs ps (k : Int) t = (mvP ps k t, true) := by
  unfold tm
  rw [dif_pos ⟨h, ⟨by omega, by omega⟩, by rw [Int.toNat_natCast, getD_at hkb]; exact ht⟩, Int.toNat_natCast]
  rfl
theorem tilesTo_kind {d : Dev} {k : Int} {n : Nat} {t : Int} : t ∈ tilesTo d k n ↔ (0 ≤ t ∧ t < n) ∧ tkp d t = k := by
  constructor
  · intro h
    refine ⟨tilesTo_mem h, ?_⟩
    unfold tilesTo at h
    exact of_decide_eq_true (List.mem_filter.1 h).2
  · rintro ⟨⟨h1, h2⟩, h3⟩
    unfold tilesTo
    refine List.mem_filter.2 ⟨List.mem_map.2 ⟨t.toNat, List.mem_range.2 (by omega), by omega⟩, decide_eq_true h3⟩
theorem tilesP_kind {d : Dev} (hd : DOk d) {k t : Int} : t ∈ tilesP d k ↔ (0 ≤ t ∧ t < d.1 * d.2.1) ∧ tk d t = k := by
  have hm := mul_le36 hd.1 hd.2.1
  unfold tilesP
  rw [if_pos hd, tilesTo_kind]
  constructor
  · rintro ⟨h1, h2⟩
    refine ⟨by omega, ?_⟩
    unfold tk; rw [if_pos ⟨hd, by omega, by omega⟩]; exact h2
  · rintro ⟨h1, h2⟩
    unfold tk at h2; rw [if_pos ⟨hd, by omega, by omega⟩] at h2
    exact ⟨by omega, h2⟩
theorem place_le {d : Dev} {bs ps : List Int} (h : placeP d bs ps = true) : ∀ p ∈ ps, p ≤ 9223372036854775807 := by
  obtain ⟨h1, h2, _⟩ := place_iff.1 h
  have hm := mul_le36 h1.1.1 h1.1.2.1
  intro p hp
  obtain ⟨j, hj, rfl⟩ := List.getElem_of_mem hp
  have := tk_lt (h2 j (by omega) hj).1
  omega
theorem bnd {α β : Type} {X : Option α} {a : α} {k : α → Option β} (h : X = some a) : X.bind k = k a := by rw [h]; rfl
theorem joinB {X Y : Option (List Int ⊕ List Int)} (h : ∃ o, X = some o ∧ Y = some o ∧ ∃ l : List Int, o = .inl l ∧ l.length ≤ 64) : ∃ o : List Int, o.length ≤ 64 ∧ joinO X (fun v9 => some v9) = some o ∧ joinO Y (fun v9 => some v9) = some o := by
  obtain ⟨o, h1, h2, l, rfl, h3⟩ := h
  exact ⟨l, h3, by rw [h1]; rfl, by rw [h2]; rfl⟩
theorem anneal_ok (d : Dev) (bs : List Int) (cns : List Conn) (ps : List Int) (seed n : Int) (hp : ∀ p ∈ ps, p ≤ 9223372036854775807) (hl : ps.length ≤ 1048576) : ∃ o : List Int, o.length ≤ 64 ∧ spec_Anneal (d, (bs, (cns, (ps, (seed, n))))) = some o ∧ impl_Anneal (d, (bs, (cns, (ps, (seed, n))))) = some o := by
  unfold spec_Anneal impl_Anneal
  try dsimp only
  rw [cost_spec d ps cns hp, cost_impl d ps cns hp]
  simp only [Option.bind_some]
  rw [place_spec d bs ps hp, place_impl d bs ps hp]
  simp only [Option.bind_some]
  cases hpl : placeP d bs ps with
  | false => exact ⟨[], by simp, rfl, rfl⟩
  | true =>
  rw [Bool.not_true, cond_false, cond_false]
  by_cases hc : costP d ps cns < 0
  · rw [dt hc]; exact ⟨[], by simp, rfl, rfl⟩
  rw [df hc, cond_false, cond_false, inR_spec, inR_impl]
  simp only [Option.bind_some]
  by_cases hn : 0 ≤ n ∧ n ≤ 200
  rotate_left
  · rw [df hn]; exact ⟨[], by simp, rfl, rfl⟩
  rw [dt hn, Bool.not_true, cond_false, cond_false, copy_ok ps hl, copy_impl ps hl]
  simp only [Option.bind_some]
  obtain ⟨hd, hb, hlen⟩ := placeP_len hpl
  have gd : ∀ a b : Int, b ≠ 0 → gdiv .i64 a b = some (wrap .i64 (a.tdiv b)) := fun a b q => by unfold gdiv; rw [if_neg q]
  refine joinB ?_
  refine loop_rel (fun s t => t = (s.1, (s.2.1, (s.2.2.1, (s.2.2.2.1, (s.2.2.2.2.1, (s.2.2.2.2.2.2, s.2.2.2.2.2.1)))))) ∧ 0 ≤ s.2.2.2.2.1 ∧ s.2.2.2.2.2.1.length ≤ 64 ∧ placeP d bs s.2.2.2.2.2.2 = true) (fun o => ∃ l : List Int, o = Sum.inl l ∧ l.length ≤ 64) (fun s => (n - s.2.2.2.2.1).toNat) (fun s t hI => ?_) (seed, (costP d ps cns, (costP d ps cns, (1200, (0, (ps, ps)))))) (seed, (costP d ps cns, (costP d ps cns, (1200, (0, (ps, ps)))))) ⟨rfl, by simp, by simp only; omega, hpl⟩
  obtain ⟨r, c, b, T, i, best, cur⟩ := s
  obtain ⟨rfl, i0, hbl, hcur⟩ := hI
  simp only at i0 hbl hcur
  try dsimp only
  by_cases hi : i < n
  rotate_left
  · right
    rw [df hi, cond_false, cond_false]
    exact ⟨_, rfl, rfl, _, rfl, hbl⟩
  rw [dt hi, cond_true, cond_true]
  by_cases hb0 : 0 < (bs.length : Int)
  rotate_left
  · right
    rw [df hb0, cond_false, cond_false]
    exact ⟨_, rfl, rfl, _, rfl, hbl⟩
  left
  obtain ⟨_, _, hcl⟩ := placeP_len hcur
  obtain ⟨x1, s1, i1, r1⟩ := rnd_ex r
  obtain ⟨x2, s2, i2, r2⟩ := rnd_ex x1
  obtain ⟨x3, s3, i3, r3⟩ := rnd_ex x2
  obtain ⟨k, hk⟩ : ∃ k : Nat, x1 / 256 % (bs.length : Int) = (k : Int) := ⟨(x1 / 256 % (bs.length : Int)).toNat, by have := Int.emod_nonneg (x1 / 256) (show (bs.length : Int) ≠ 0 by omega); omega⟩
  have hkb : k < bs.length := by have := Int.emod_lt_of_pos (x1 / 256) hb0; omega
  have hkc : k < cur.length := by omega
  have g1 : gdiv .i64 x1 256 = some (x1 / 256) := gdiv_nn r1.1 (by omega) (by omega)
  have g2 : grem (x1 / 256) (bs.length : Int) = some (k : Int) := by rw [grem_nn (Int.ediv_nonneg r1.1 (by omega)) hb0, hk]
  have g3 : gget 0 bs (k : Int) = some bs[k] := gget_nat hkb
  obtain ⟨p1, p2⟩ := placeP_at hcur k hkb hkc
  have hmem : cur[k] ∈ tilesP d (bt bs[k]) := (tilesP_kind hd).2 ⟨tk_lt p1, p2⟩
  have htl : 0 < ((tilesP d (bt bs[k])).length : Int) := by have := List.length_pos_of_mem hmem; omega
  obtain ⟨m, hm⟩ : ∃ m : Nat, x2 / 256 % ((tilesP d (bt bs[k])).length : Int) = (m : Int) := ⟨(x2 / 256 % ((tilesP d (bt bs[k])).length : Int)).toNat, by have := Int.emod_nonneg (x2 / 256) (show ((tilesP d (bt bs[k])).length : Int) ≠ 0 by omega); omega⟩
  have hml : m < (tilesP d (bt bs[k])).length := by have := Int.emod_lt_of_pos (x2 / 256) htl; omega
  have htm := (tilesP_kind hd).1 (List.getElem_mem hml)
  have g4 : gdiv .i64 x2 256 = some (x2 / 256) := gdiv_nn r2.1 (by omega) (by omega)
  have g5 : grem (x2 / 256) ((tilesP d (bt bs[k])).length : Int) = some (m : Int) := by rw [grem_nn (Int.ediv_nonneg r2.1 (by omega)) htl, hm]
  have g6 : gin (tilesP d (bt bs[k])).length (m : Int) = some () := gin_nat hml
  have g7 : gget 0 (tilesP d (bt bs[k])) (m : Int) = some (tilesP d (bt bs[k]))[m] := gget_nat hml
  have e1 := bt_spec bs[k]
  have e2 := bt_impl bs[k]
  have e3 := tiles_spec d (bt bs[k])
  have e4 := tiles_impl d (bt bs[k])
  rw [dt hb0, cond_true, cond_true, bnd s1, bnd i1, bnd g1, bnd g1, bnd g2, bnd g2, bnd s2, bnd g3, bnd g3, bnd e1, bnd e2, bnd e3, bnd e4, bnd i2, bnd g4, bnd g4, bnd g5, bnd g5, bnd g6, bnd g6, bnd g7, bnd g7, bnd s3, bnd i3]
  generalize (tilesP d (bt bs[k]))[m] = t at *
  have hmm := mul_le36 hd.1 hd.2.1
  have hcle := place_le hcur
  have hmv := move_keeps hcur hkc hkb htm.2
  have hmvl := mvP_len cur k t
  have f1 : spec_TryMove (d, (bs, (cur, ((k : Int), t)))) = some (mvP cur k t, true) := by rw [tm_spec d bs cur (k : Int) t hcle (by omega) (by omega), tm_move hcur hkc hkb htm.2]
  have f2 : impl_tryMove (cur, ((k : Int), t)) = some (mvP cur k t) := tryMove_impl hkc (by omega) t
  have f3 : gdiv .i64 x3 256 = some (wrap .i64 (x3.tdiv 256)) := gd _ 256 (by omega)
  have f4 : grem (wrap .i64 (x3.tdiv 256)) 100 = some ((wrap .i64 (x3.tdiv 256)).tmod 100) := by unfold grem; rw [if_neg (by omega)]
  have f5 := cost_spec d (mvP cur k t) cns (place_le hmv)
  have f6 := cost_impl d (mvP cur k t) cns (place_le hmv)
  have f7 := copy_ok (mvP cur k t) (by omega)
  have f8 := copy_impl (mvP cur k t) (by omega)
  have f9 := copy_ok cur (by omega)
  have f10 := copy_impl cur (by omega)
  have f11 : gdiv .i64 (wrap .i64 (T * 97)) 100 = some (wrap .i64 ((wrap .i64 (T * 97)).tdiv 100)) := gd _ 100 (by omega)
  rw [bnd f1, bnd f3, bnd f4, bnd f2]
  try dsimp only
  rw [bnd f5, bnd f6, wrap_ok (z := i + 1) (by omega)]
  generalize costP d (mvP cur k t) cns = C at *
  generalize hE : (wrap .i64 (x3.tdiv 256)).tmod 100 = E at *
  by_cases q1 : C ≤ c
  · rw [dt q1, cond_true, cond_true]
    by_cases q2 : C < b
    · rw [dt q2, cond_true, cond_true, bnd f7, bnd f8, bnd f11]
      exact ⟨_, _, rfl, rfl, ⟨rfl, by simp only; omega, by simp only; omega, hmv⟩, by simp only; omega⟩
    · rw [df q2, cond_false, cond_false, bnd f11, bnd f11]
      exact ⟨_, _, rfl, rfl, ⟨rfl, by simp only; omega, hbl, hmv⟩, by simp only; omega⟩
  · rw [df q1, cond_false, cond_false]
    rw [bnd f3, bnd f4]
    by_cases q3 : wrap .i64 (10000 * wrap .i64 (C - c)) ≤ wrap .i64 (T * E)
    · rw [dt q3, cond_true, cond_true]
      by_cases q2 : C < b
      · rw [dt q2, cond_true, cond_true, bnd f7, bnd f8, bnd f11]
        exact ⟨_, _, rfl, rfl, ⟨rfl, by simp only; omega, by simp only; omega, hmv⟩, by simp only; omega⟩
      · rw [df q2, cond_false, cond_false, bnd f11, bnd f11]
        exact ⟨_, _, rfl, rfl, ⟨rfl, by simp only; omega, hbl, hmv⟩, by simp only; omega⟩
    · rw [df q3, cond_false, cond_false]
      by_cases q2 : c < b
      · rw [dt q2, cond_true, cond_true, bnd f9, bnd f10, bnd f11]
        exact ⟨_, _, rfl, rfl, ⟨rfl, by simp only; omega, by simp only; omega, hcur⟩, by simp only; omega⟩
      · rw [df q2, cond_false, cond_false, bnd f11, bnd f11]
        exact ⟨_, _, rfl, rfl, ⟨rfl, by simp only; omega, hbl, hcur⟩, by simp only; omega⟩
theorem law_FnExactAnneal (x : ((Int × (Int × (Int × Int))) × (List Int × (List (Int × ((Int × Int) × List (Int × Int))) × (List Int × (Int × Int)))))) (h : InR (tP (tP tI (tP tI (tP tI tI))) (tP (tS 0 tI) (tP (tS 0 (tP tI (tP (tP tI tI) (tS 0 (tP tI tI))))) (tP (tS 0 tI) (tP tI tI))))) x) : laws_FnExactAnneal x = some true := by
  obtain ⟨d, bs, cs, ps, seed, n⟩ := x
  obtain ⟨_, _, ⟨hc, hcs⟩, ⟨_, hp⟩, _⟩ := h
  have hp : ∀ p ∈ ps, p ≤ 9223372036854775807 := fun p hm => (hp p hm).2
  unfold laws_FnExactAnneal laws_toDevice
  simp only
  by_cases h1 : 1048576 < (bs.length : Int)
  · rw [dt h1]; rfl
  rw [df h1, cond_false]
  by_cases h2 : 1048576 < (ps.length : Int)
  · rw [dt h2]; rfl
  rw [df h2, cond_false]
  rcases szCnsB_ok cs (Nat.le_trans hc (by decide)) (fun c hm => Nat.le_trans (hcs c hm).2.2.1 (by decide)) with e | ⟨hb, z, z0, z1, e⟩
  · rw [e]; rfl
  have hok := hb.ok
  rw [e]
  simp only [Option.bind_some]
  rw [df (by omega), cond_false]
  obtain ⟨q, hq, hq0, hq1⟩ := markCns_le cs (1 + (bs.length : Int)) (by omega) (by omega) hb
  obtain ⟨o, hl, hs, hi⟩ := anneal_ok d bs cs ps seed n hp (by omega)
  have hl2 : o.length ≤ 1048576 := by omega
  simp only [toIntS_ok bs (by omega), toIntS_ok ps (by omega), toConnS_ok cs hok, Option.bind_some, hs, hi, cond_false, eqIntS_ok bs bs (by omega), eqIntS_ok ps ps (by omega), eqIntS_ok o o (by omega), eqConnS_refl cs hok, decide_true, Bool.not_true]
  rw [markIntS_ok bs 1 (by omega) (by omega) (by omega)]
  simp only [Option.bind_some, hq]
  rw [markIntS_ok ps q.1 hq0 (by omega) (by omega)]
  simp only [Option.bind_some]
  rw [df (show ¬ (q.1 + (ps.length : Int) < 0) by omega), cond_false, markIntS_ok o 1 (by omega) (by omega) hl2]
  simp only [Option.bind_some, heldIntS_ok 1 o.length (by omega) (by omega) hl2, df (show ¬ (1 + (o.length : Int) < 0) by omega), cond_false, ne_eq, not_true_eq_false, decide_false]
end Go.Pf
