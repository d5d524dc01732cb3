/-
  Own work. The device's routing nodes, plainly.
-/
import Derived.Test.YtjpkedhcbnklmaaDvc
namespace Go.Pf
open Go Go.Pu

def stpX (d : Int × (Int × (Int × Int))) (t dir len : Int) : Int := t % d.1 + (if dir = 0 then len else if dir = 2 then -len else 0)
def stpY (d : Int × (Int × (Int × Int))) (t dir len : Int) : Int := t / d.1 + (if dir = 1 then len else if dir = 3 then -len else 0)
def stp (d : Int × (Int × (Int × Int))) (t dir len : Int) : Int :=
  if (0 ≤ stpX d t dir len ∧ stpX d t dir len ≤ d.1 - 1) ∧ (0 ≤ stpY d t dir len ∧ stpY d t dir len ≤ d.2.1 - 1) then stpY d t dir len * d.1 + stpX d t dir len else -1
theorem tile_xy {d : Int × (Int × (Int × Int))} {t : Int} (h : DOk d) (h0 : 0 ≤ t) (h1 : t < d.1 * d.2.1) : (0 ≤ t % d.1 ∧ t % d.1 < d.1) ∧ (0 ≤ t / d.1 ∧ t / d.1 < d.2.1) ∧ t = t / d.1 * d.1 + t % d.1 := by
  have hw := h.1
  refine ⟨⟨Int.emod_nonneg _ (by omega), Int.emod_lt_of_pos _ (by omega)⟩, ⟨Int.ediv_nonneg h0 (by omega), Int.ediv_lt_of_lt_mul (by omega) (by rw [Int.mul_comm]; exact h1)⟩, ?_⟩
  have := Int.emod_add_mul_ediv t d.1
  rw [Int.mul_comm] at this; omega
theorem mul_small {a b : Int} (ha : 0 ≤ a ∧ a ≤ 5) (hb : 3 ≤ b ∧ b ≤ 6) : 0 ≤ a * b ∧ a * b ≤ 30 := by
  have : b = 3 ∨ b = 4 ∨ b = 5 ∨ b = 6 := by omega
  rcases this with rfl | rfl | rfl | rfl <;> omega
theorem stp_fin {d : Int × (Int × (Int × Int))} (h : DOk d) (x y : Int) :
    ((impl_inRange (x, (0, wrap .i64 (d.1 - 1)))).bind fun v5 =>
    let v6 : Bool := !v5
    bif v6 then (
      some (-1)) else
    let v7 : Int := wrap .i64 (d.2.1 - 1)
    (impl_inRange (y, (0, v7))).bind fun v8 =>
    let v9 : Bool := !v8
    bif v9 then (
      some (-1)) else
    let v10 : Int := wrap .i64 (y * d.1)
    let v11 : Int := wrap .i64 (v10 + x)
    some v11) = some (if (0 ≤ x ∧ x ≤ d.1 - 1) ∧ (0 ≤ y ∧ y ≤ d.2.1 - 1) then y * d.1 + x else -1) := by
  have hw := h.1; have hh := h.2.1
  rw [wrap_ok (by omega), inR_impl]
  simp only [Option.bind_some]
  rw [wrap_ok (z := d.2.1 - 1) (by omega), inR_impl]
  simp only [Option.bind_some]
  by_cases q : 0 ≤ x ∧ x ≤ d.1 - 1
  · by_cases q2 : 0 ≤ y ∧ y ≤ d.2.1 - 1
    · have hs := mul_small (a := y) (b := d.1) (by omega) hw
      rw [if_pos ⟨q, q2⟩, dt q, dt q2, wrap_ok (z := y * d.1) (by omega), wrap_ok (by omega)]
      rfl
    · rw [if_neg (fun e => q2 e.2), dt q, df q2]; rfl
  · rw [if_neg (fun e => q e.1), df q]; rfl
theorem stp_impl {d : Int × (Int × (Int × Int))} {t dir len : Int} (h : DOk d) (h0 : 0 ≤ t) (h1 : t < d.1 * d.2.1) (hd : 0 ≤ dir ∧ dir ≤ 3) (hl : 0 ≤ len ∧ len ≤ 6) : impl_tileStep (d, (t, (dir, len))) = some (stp d t dir len) := by
  unfold impl_tileStep
  have hw := h.1; have hh := h.2.1
  have hm := mul_le36 h.1 h.2.1
  obtain ⟨⟨hx0, hx1⟩, ⟨hy0, hy1⟩, _⟩ := tile_xy h h0 h1
  dsimp only
  rw [grem_nn h0 (by omega), gdiv_nn h0 (by omega) (by omega)]
  simp only [Option.bind_some]
  have fin : ∀ x y, x = stpX d t dir len → y = stpY d t dir len → joinO (some (Sum.inl (x, y))) (fun (v3 : (Int × Int)) =>
    let v4 : Int := wrap .i64 (d.1 - 1)
    (impl_inRange (v3.1, (0, v4))).bind fun v5 =>
    let v6 : Bool := !v5
    bif v6 then (
      some (-1)) else
    let v7 : Int := wrap .i64 (d.2.1 - 1)
    (impl_inRange (v3.2, (0, v7))).bind fun v8 =>
    let v9 : Bool := !v8
    bif v9 then (
      some (-1)) else
    let v10 : Int := wrap .i64 (v3.2 * d.1)
    let v11 : Int := wrap .i64 (v10 + v3.1)
    some v11) = some (stp d t dir len) := by
    intro x y hx hy
    subst hx hy
    exact stp_fin h _ _
  have hc : dir = 0 ∨ dir = 1 ∨ dir = 2 ∨ dir = 3 := by omega
  rcases hc with rfl | rfl | rfl | rfl
  · rw [dt rfl, cond_true, wrap_ok (by omega)]
    exact fin _ _ (by simp [stpX]) (by simp [stpY])
  · rw [df (by omega), cond_false, dt rfl, cond_true, wrap_ok (by omega)]
    exact fin _ _ (by simp [stpX]) (by simp [stpY])
  · rw [df (by omega), cond_false, df (by omega), cond_false, dt rfl, cond_true, wrap_ok (by omega)]
    exact fin _ _ (by simp [stpX]; omega) (by simp [stpY])
  · rw [df (by omega), cond_false, df (by omega), cond_false, df (by omega), cond_false, wrap_ok (by omega)]
    exact fin _ _ (by simp [stpX]) (by simp [stpY]; omega)
theorem stp_spec {d : Int × (Int × (Int × Int))} {t dir len : Int} (h : DOk d) (h0 : 0 ≤ t) (h1 : t < d.1 * d.2.1) (hd : 0 ≤ dir ∧ dir ≤ 3) (hl : 0 ≤ len ∧ len ≤ 6) : spec_TileStep (d, (t, (dir, len))) = some (stp d t dir len) := by
  unfold spec_TileStep
  have hw := h.1; have hh := h.2.1
  have hm := mul_le36 h.1 h.2.1
  obtain ⟨⟨hx0, hx1⟩, ⟨hy0, hy1⟩, _⟩ := tile_xy h h0 h1
  have ht : tk d t = tkp d t := by unfold tk; rw [if_pos ⟨h, h0, h1⟩]
  have ht0 := tkp_ge d t
  simp only [tk_spec d t (by omega), Option.bind_some, ht, inR_spec]
  rw [df (by omega), cond_false, dt hd, dt hl, grem_nn h0 (by omega), gdiv_nn h0 (by omega) (by omega)]
  simp only [Option.bind_some, Bool.not_true, cond_false]
  have fin : ∀ x y, x = stpX d t dir len → y = stpY d t dir len → ((spec_l01In (x, (0, wrap .i64 (d.1 - 1)))).bind fun v5 =>
    let v6 : Bool := !v5
    bif v6 then (
      some (-1)) else
    let v7 : Int := wrap .i64 (d.2.1 - 1)
    (spec_l01In (y, (0, v7))).bind fun v8 =>
    let v9 : Bool := !v8
    bif v9 then (
      some (-1)) else
    let v10 : Int := wrap .i64 (y * d.1)
    let v11 : Int := wrap .i64 (v10 + x)
    some v11) = some (stp d t dir len) := by
    intro x y hx hy
    subst hx hy
    exact stp_fin h _ _
  simp only [inR_spec, Option.bind_some] at fin
  have hc : dir = 0 ∨ dir = 1 ∨ dir = 2 ∨ dir = 3 := by omega
  have ex : ∃ a b : Int, gget 0 [1, 0, (-1), 0] dir = some a ∧ gget 0 [0, 1, 0, (-1)] dir = some b ∧ gin 4 dir = some () ∧ wrap .i64 (t % d.1 + wrap .i64 (a * len)) = stpX d t dir len ∧ wrap .i64 (t / d.1 + wrap .i64 (b * len)) = stpY d t dir len := by
    rcases hc with rfl | rfl | rfl | rfl
    · exact ⟨1, 0, rfl, rfl, rfl, by rw [wrap_ok (z := 1 * len) (by omega), wrap_ok (by omega)]; simp [stpX], by rw [wrap_ok (z := 0 * len) (by omega), wrap_ok (by omega)]; simp [stpY]⟩
    · exact ⟨0, 1, rfl, rfl, rfl, by rw [wrap_ok (z := 0 * len) (by omega), wrap_ok (by omega)]; simp [stpX], by rw [wrap_ok (z := 1 * len) (by omega), wrap_ok (by omega)]; simp [stpY]⟩
    · exact ⟨-1, 0, rfl, rfl, rfl, by rw [wrap_ok (z := -1 * len) (by omega), wrap_ok (by omega)]; simp [stpX], by rw [wrap_ok (z := 0 * len) (by omega), wrap_ok (by omega)]; simp [stpY]⟩
    · exact ⟨0, -1, rfl, rfl, rfl, by rw [wrap_ok (z := 0 * len) (by omega), wrap_ok (by omega)]; simp [stpX], by rw [wrap_ok (z := -1 * len) (by omega), wrap_ok (by omega)]; simp [stpY]⟩
  obtain ⟨a, b, ea, eb, eg, ex, ey⟩ := ex
  simp only [List.length_cons, List.length_nil, Nat.zero_add, Nat.reduceAdd, ea, eb, eg, Option.bind_some, ex, ey]
  exact fin _ _ rfl rfl

def nTile (d : Int × (Int × (Int × Int))) (n : Int) : Int := n / per d
def nPin (d : Int × (Int × (Int × Int))) (n : Int) : Int := n % per d
def wDir (d : Int × (Int × (Int × Int))) (n : Int) : Int := (nPin d n - 7) / d.2.2.1
def wTrk (d : Int × (Int × (Int × Int))) (n : Int) : Int := (nPin d n - 7) % d.2.2.1
theorem node_tp {d : Int × (Int × (Int × Int))} {n : Int} (h : DOk d) (h0 : 0 ≤ n) (h1 : n < nodesN d) : (0 ≤ nTile d n ∧ nTile d n < d.1 * d.2.1) ∧ (0 ≤ nPin d n ∧ nPin d n < per d) ∧ n = nTile d n * per d + nPin d n := by
  have hp := per_le h
  unfold nTile nPin
  refine ⟨⟨Int.ediv_nonneg h0 (by omega), Int.ediv_lt_of_lt_mul (by omega) (by exact h1)⟩, ⟨Int.emod_nonneg _ (by omega), Int.emod_lt_of_pos _ (by omega)⟩, ?_⟩
  have := Int.emod_add_mul_ediv n (per d)
  rw [Int.mul_comm] at this; omega
theorem wire_dt {d : Int × (Int × (Int × Int))} {n : Int} (h : DOk d) (h0 : 0 ≤ n) (h7 : 7 ≤ nPin d n) (h1 : n < nodesN d) : (0 ≤ wDir d n ∧ wDir d n ≤ 3) ∧ (0 ≤ wTrk d n ∧ wTrk d n < d.2.2.1) ∧ nPin d n = 7 + wDir d n * d.2.2.1 + wTrk d n := by
  have ht := h.2.2.1
  obtain ⟨_, ⟨hp0, hp1⟩, _⟩ := node_tp h h0 h1
  unfold wDir wTrk
  have e : (nPin d n - 7) / d.2.2.1 < 4 := Int.ediv_lt_of_lt_mul (by omega) (by unfold per at hp1; omega)
  refine ⟨⟨Int.ediv_nonneg (by omega) (by omega), by omega⟩, ⟨Int.emod_nonneg _ (by omega), Int.emod_lt_of_pos _ (by omega)⟩, ?_⟩
  have := Int.emod_add_mul_ediv (nPin d n - 7) d.2.2.1
  rw [Int.mul_comm] at this; omega
theorem nplace_impl {d : Int × (Int × (Int × Int))} {n : Int} (h : DOk d) (h0 : 0 ≤ n) (h1 : n ≤ 9223372036854775807) : impl_nodePlace (d, n) = some (nTile d n, nPin d n) := by
  have hp := per_le h
  unfold impl_nodePlace
  simp only [per_impl h, Option.bind_some]
  rw [gdiv_nn h0 h1 (by omega), grem_nn h0 (by omega)]
  rfl
theorem wireLen_impl {k : Int} (h0 : 0 ≤ k) : impl_wireLength k = some (1 + k % 2) := by
  unfold impl_wireLength
  dsimp only
  rw [grem_nn h0 (by omega)]
  simp only [Option.bind_some]
  rw [wrap_ok (by omega)]
theorem wireOf_impl {d : Int × (Int × (Int × Int))} {n : Int} (h : DOk d) (h0 : 0 ≤ n) (h1 : n ≤ 9223372036854775807) (h7 : 7 ≤ nPin d n) : impl_wireOf (d, n) = some (nTile d n, (wDir d n, (wTrk d n, true))) := by
  have hp := per_le h
  have ht := h.2.2.1
  have : nPin d n < per d := Int.emod_lt_of_pos _ (by omega)
  unfold impl_wireOf
  simp only [nplace_impl h h0 h1, Option.bind_some]
  rw [wrap_ok (by omega), gdiv_nn (by omega) (by omega) (by omega), grem_nn (by omega) (by omega), dt h7]
  rfl
theorem l27Wire_spec {d : Int × (Int × (Int × Int))} {n : Int} (h : DOk d) (h0 : 0 ≤ n) (h7 : 7 ≤ nPin d n) : spec_l27Wire (d, n) = some (wDir d n, wTrk d n) := by
  have hp := per_le h
  have ht := h.2.2.1
  have : nPin d n < per d := Int.emod_lt_of_pos _ (by omega)
  unfold spec_l27Wire
  simp only [per_spec h, Option.bind_some]
  rw [grem_nn h0 (by omega)]
  simp only [Option.bind_some]
  have e : n % per d = nPin d n := rfl
  rw [e, wrap_ok (by omega), gdiv_nn (by omega) (by omega) (by omega), grem_nn (by omega) (by omega)]
  rfl
def rnOkP (d : Int × (Int × (Int × Int))) (n : Int) : Prop := DOk d ∧ 0 ≤ n ∧ n < nodesN d ∧
  (if nPin d n < 5 then nPin d n < inP (tkp d (nTile d n)) else if nPin d n < 7 then nPin d n - 5 < outP (tkp d (nTile d n)) else 0 ≤ stp d (nTile d n) (wDir d n) (1 + wTrk d n % 2))
instance (d : Int × (Int × (Int × Int))) (n : Int) : Decidable (rnOkP d n) := by unfold rnOkP; exact inferInstance
theorem rnOk_spec (d : Int × (Int × (Int × Int))) (n : Int) : spec_RouteNodeOk (d, n) = some (decide (rnOkP d n)) := by
  unfold spec_RouteNodeOk
  simp only [routeNodes_spec, Option.bind_some]
  by_cases h0 : n < 0
  · rw [dt h0, cond_true, df (fun e => by have := e.2.1; omega)]
  rw [df h0, cond_false]
  by_cases h : DOk d
  · rw [if_pos h]
    by_cases h1 : nodesN d ≤ n
    · rw [dt h1, cond_true, df (fun e => by have := e.2.2.1; omega)]
    have hn := nodesN_le h
    have hm := mul_le36 h.1 h.2.1
    have hp := per_le h
    obtain ⟨⟨ht0, ht1⟩, ⟨hp0, hp1⟩, _⟩ := node_tp h (n := n) (by omega) (by omega)
    simp only [df h1, cond_false, per_spec h, Option.bind_some]
    rw [gdiv_nn (by omega) (by omega) (by omega), grem_nn (by omega) (by omega)]
    have e1 : n / per d = nTile d n := rfl
    have e2 : n % per d = nPin d n := rfl
    have e3 : tk d (nTile d n) = tkp d (nTile d n) := by unfold tk; rw [if_pos ⟨h, ht0, ht1⟩]
    simp only [Option.bind_some, e1, e2, tk_spec d (nTile d n) (by omega), e3, inPins_spec, outPins_spec]
    by_cases q5 : nPin d n < 5
    · rw [dt q5, cond_true]
      congr 1
      rw [decide_eq_decide]
      unfold rnOkP; rw [if_pos q5]
      exact ⟨fun e => ⟨h, by omega, by omega, e⟩, fun e => e.2.2.2⟩
    rw [df q5, cond_false]
    by_cases q7 : nPin d n < 7
    · rw [dt q7, cond_true, wrap_ok (by omega)]
      congr 1
      rw [decide_eq_decide]
      unfold rnOkP; rw [if_neg q5, if_pos q7]
      exact ⟨fun e => ⟨h, by omega, by omega, e⟩, fun e => e.2.2.2⟩
    obtain ⟨⟨hd0, hd1⟩, ⟨hk0, hk1⟩, _⟩ := wire_dt h (n := n) (by omega) (by omega) (by omega)
    have ht := h.2.2.1
    rw [df q7, cond_false, l27Wire_spec h (by omega) (by omega)]
    simp only [Option.bind_some]
    rw [grem_nn hk0 (by omega)]
    simp only [Option.bind_some]
    rw [wrap_ok (by omega), stp_spec h ht0 ht1 ⟨hd0, hd1⟩ (by omega)]
    simp only [Option.bind_some]
    congr 1
    rw [decide_eq_decide]
    unfold rnOkP; rw [if_neg q5, if_neg q7]
    exact ⟨fun e => ⟨h, by omega, by omega, e⟩, fun e => e.2.2.2⟩
  · rw [if_neg h, dt (by omega), cond_true, df (fun e => h e.1)]
theorem rnOk_impl (d : Int × (Int × (Int × Int))) (n : Int) : impl_RouteNodeOk (d, n) = some (decide (rnOkP d n)) := by
  unfold impl_RouteNodeOk
  simp only [devOk_impl, Option.bind_some]
  by_cases h : DOk d
  · have hn := nodesN_le h
    have hm := mul_le36 h.1 h.2.1
    have hp := per_le h
    simp only [dt h, Bool.not_true, cond_false, routeNodes_impl h, Option.bind_some]
    rw [wrap_ok (by omega), inR_impl]
    simp only [Option.bind_some]
    by_cases h1 : 0 ≤ n ∧ n ≤ nodesN d - 1
    · obtain ⟨⟨ht0, ht1⟩, ⟨hp0, hp1⟩, _⟩ := node_tp h (n := n) (by omega) (by omega)
      simp only [dt h1, Bool.not_true, cond_false, nplace_impl h h1.1 (by omega), Option.bind_some]
      rw [tileKind_impl d _ h ht0 (by omega)]
      simp only [Option.bind_some, inPins_impl, outPins_impl]
      by_cases q5 : nPin d n < 5
      · rw [dt q5, cond_true]
        congr 1
        rw [decide_eq_decide]
        unfold rnOkP; rw [if_pos q5]
        exact ⟨fun e => ⟨h, by omega, by omega, e⟩, fun e => e.2.2.2⟩
      rw [df q5, cond_false]
      by_cases q7 : nPin d n < 7
      · rw [dt q7, cond_true, wrap_ok (by omega)]
        congr 1
        rw [decide_eq_decide]
        unfold rnOkP; rw [if_neg q5, if_pos q7]
        exact ⟨fun e => ⟨h, by omega, by omega, e⟩, fun e => e.2.2.2⟩
      obtain ⟨⟨hd0, hd1⟩, ⟨hk0, hk1⟩, _⟩ := wire_dt h (n := n) (by omega) (by omega) (by omega)
      have ht := h.2.2.1
      rw [df q7, cond_false, wireOf_impl h (by omega) (by omega) (by omega)]
      simp only [Option.bind_some]
      rw [wireLen_impl hk0]
      simp only [Option.bind_some]
      rw [stp_impl h ht0 ht1 ⟨hd0, hd1⟩ (by omega)]
      simp only [Option.bind_some]
      congr 1
      rw [decide_eq_decide]
      unfold rnOkP; rw [if_neg q5, if_neg q7]
      exact ⟨fun e => ⟨h, by omega, by omega, e⟩, fun e => e.2.2.2⟩
    · rw [df h1]
      simp only [Bool.not_false, cond_true]
      rw [df (fun e => h1 ⟨e.2.1, by have := e.2.2.1; omega⟩)]
  · rw [df h]
    simp only [Bool.not_false, cond_true]
    rw [df (fun e => h e.1)]
def isWireP (d : Int × (Int × (Int × Int))) (n : Int) : Prop := rnOkP d n ∧ 7 ≤ nPin d n
instance (d : Int × (Int × (Int × Int))) (n : Int) : Decidable (isWireP d n) := by unfold isWireP; exact inferInstance
end Go.Pf

