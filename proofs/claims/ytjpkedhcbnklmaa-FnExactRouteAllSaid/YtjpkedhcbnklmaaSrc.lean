/-
  Own work. The nodes that lead into a node: the program's and the reference's, plainly.
-/
import Derived.Test.YtjpkedhcbnklmaaSrt
import Derived.Test.YtjpkedhcbnklmaaCut
import Derived.Test.YtjpkedhcbnklmaaCna
namespace Go.Pf
open Go Go.Pu
set_option linter.unusedVariables false

def opp (dir : Int) : Int := (dir + 2) % 4
def wn (d : Dev) (s dir trk : Int) : Int := if 0 ≤ s ∧ 0 ≤ stp d s dir (1 + trk % 2) then s * per d + 7 + dir * d.2.2.1 + trk else -1
theorem wn_le {d : Dev} {s dir trk : Int} (h : DOk d) (h1 : s < d.1 * d.2.1) (hdir : 0 ≤ dir ∧ dir ≤ 3) (ht : 0 ≤ trk ∧ trk < d.2.2.1) (hs : 0 ≤ s) : (0 ≤ s * per d ∧ s * per d ≤ 828) ∧ (0 ≤ dir * d.2.2.1 ∧ dir * d.2.2.1 ≤ 12 ∧ dir * d.2.2.1 + d.2.2.1 ≤ 4 * d.2.2.1) ∧ s * per d + per d ≤ nodesN d := by
  have hm := mul_le36 h.1 h.2.1
  have hp := per_le h
  have hT := h.2.2.1
  have h2 : s * per d ≤ 36 * 23 := Int.mul_le_mul (by omega) (by omega) (by omega) (by omega)
  have h3 : 0 ≤ s * per d := Int.mul_nonneg (by omega) (by omega)
  have h4 : (s + 1) * per d ≤ d.1 * d.2.1 * per d := Int.mul_le_mul_of_nonneg_right (by omega) (by omega)
  rw [Int.add_mul, Int.one_mul] at h4
  refine ⟨⟨h3, by omega⟩, ?_, h4⟩
  have : dir = 0 ∨ dir = 1 ∨ dir = 2 ∨ dir = 3 := by omega
  rcases this with rfl | rfl | rfl | rfl <;> omega
theorem wn_spec {d : Dev} {s dir trk : Int} (h : DOk d) (h1 : s < d.1 * d.2.1) (hdir : 0 ≤ dir ∧ dir ≤ 3) (ht : 0 ≤ trk ∧ trk < d.2.2.1) : spec_WireNode (d, (s, (dir, trk))) = some (wn d s dir trk) := by
  unfold spec_WireNode wn
  have hm := mul_le36 h.1 h.2.1
  have hT := h.2.2.1
  dsimp only
  rw [tk_spec d s (by omega)]
  simp only [Option.bind_some]
  by_cases h0 : 0 ≤ s
  · have e : tk d s = tkp d s := by unfold tk; rw [if_pos ⟨h, h0, h1⟩]
    have hk := tkp_ge d s
    obtain ⟨hw1, hw2, _⟩ := wn_le h h1 hdir ht h0
    rw [df (by omega), cond_false, df (by omega), cond_false, df (by omega), cond_false, grem_nn ht.1 (by omega)]
    simp only [Option.bind_some]
    rw [wrap_ok (z := 1 + trk % 2) (by omega), stp_spec h h0 h1 hdir (by omega)]
    simp only [Option.bind_some]
    by_cases q : stp d s dir (1 + trk % 2) < 0
    · rw [dt q, cond_true, if_neg (by omega)]
    · rw [df q, cond_false, if_pos ⟨h0, by omega⟩, per_spec h]
      simp only [Option.bind_some]
      rw [wrap_ok (z := dir * d.2.2.1) (by omega), wrap_ok (z := s * per d) (by omega), wrap_ok (z := s * per d + 7) (by omega), wrap_ok (z := s * per d + 7 + dir * d.2.2.1) (by omega), wrap_ok (by omega)]
  · have e : tk d s = -1 := by unfold tk; rw [if_neg (by omega)]
    rw [dt (by omega), cond_true, if_neg (by omega)]
theorem wn_impl {d : Dev} {s dir trk : Int} (h : DOk d) (h1 : s < d.1 * d.2.1) (hdir : 0 ≤ dir ∧ dir ≤ 3) (ht : 0 ≤ trk ∧ trk < d.2.2.1) : impl_WireNode (d, (s, (dir, trk))) = some (wn d s dir trk) := by
  unfold impl_WireNode wn
  have hm := mul_le36 h.1 h.2.1
  have hT := h.2.2.1
  dsimp only
  rw [tileOk_impl]
  simp only [Option.bind_some]
  by_cases h0 : 0 ≤ s
  · obtain ⟨hw1, hw2, _⟩ := wn_le h h1 hdir ht h0
    rw [dt ⟨h, h0, h1⟩, Bool.not_true, cond_false, inR_impl]
    simp only [Option.bind_some]
    rw [dt hdir, Bool.not_true, cond_false, wrap_ok (z := d.2.2.1 - 1) (by omega), inR_impl]
    simp only [Option.bind_some]
    rw [dt (by omega), Bool.not_true, cond_false, wireLen_impl ht.1]
    simp only [Option.bind_some]
    rw [stp_impl h h0 h1 hdir (by omega)]
    simp only [Option.bind_some]
    by_cases q : stp d s dir (1 + trk % 2) < 0
    · rw [dt q, cond_true, if_neg (by omega)]
    · rw [df q, cond_false, if_pos ⟨h0, by omega⟩, per_impl h]
      simp only [Option.bind_some]
      rw [wrap_ok (z := dir * d.2.2.1) (by omega), wrap_ok (z := s * per d) (by omega), wrap_ok (z := s * per d + 7) (by omega), wrap_ok (z := s * per d + 7 + dir * d.2.2.1) (by omega), wrap_ok (by omega)]
  · rw [df (fun e => h0 e.2.1), Bool.not_false, cond_true, if_neg (by omega)]
theorem stp_lt {d : Dev} {t dir len : Int} (h : DOk d) : stp d t dir len < d.1 * d.2.1 := by
  have hm := mul_le36 h.1 h.2.1
  by_cases q : 0 ≤ stp d t dir len
  · exact (stp_ok h q).2.2.1
  · omega
/-- What a wire's node says. -/
theorem wn_dec {d : Dev} {s dir trk : Int} (h : DOk d) (h1 : s < d.1 * d.2.1) (hdir : 0 ≤ dir ∧ dir ≤ 3) (ht : 0 ≤ trk ∧ trk < d.2.2.1) (h0 : 0 ≤ wn d s dir trk) : 0 ≤ s ∧ nTile d (wn d s dir trk) = s ∧ 7 ≤ nPin d (wn d s dir trk) ∧ wDir d (wn d s dir trk) = dir ∧ wTrk d (wn d s dir trk) = trk ∧ wn d s dir trk < nodesN d := by
  have hT := h.2.2.1
  have hp := per_le h
  by_cases q : 0 ≤ s ∧ 0 ≤ stp d s dir (1 + trk % 2)
  · obtain ⟨hw1, hw2, hw3⟩ := wn_le h h1 hdir ht q.1
    have e : wn d s dir trk = s * per d + (7 + dir * d.2.2.1 + trk) := by unfold wn; rw [if_pos q]; omega
    have hper : per d = 7 + 4 * d.2.2.1 := rfl
    have e1 : nTile d (wn d s dir trk) = s := by
      unfold nTile; rw [e, Int.add_comm, Int.add_mul_ediv_right _ _ (by omega), Int.ediv_eq_zero_of_lt (by omega) (by omega)]; omega
    have e2 : nPin d (wn d s dir trk) = 7 + dir * d.2.2.1 + trk := by
      unfold nPin; rw [e, Int.add_comm, Int.add_mul_emod_self_right, Int.emod_eq_of_lt (by omega) (by omega)]
    have e3 : wDir d (wn d s dir trk) = dir := by
      unfold wDir; rw [e2]
      have : 7 + dir * d.2.2.1 + trk - 7 = trk + dir * d.2.2.1 := by omega
      rw [this, Int.add_mul_ediv_right _ _ (by omega), Int.ediv_eq_zero_of_lt (by omega) (by omega)]; omega
    have e4 : wTrk d (wn d s dir trk) = trk := by
      unfold wTrk; rw [e2]
      have : 7 + dir * d.2.2.1 + trk - 7 = trk + dir * d.2.2.1 := by omega
      rw [this, Int.add_mul_emod_self_right, Int.emod_eq_of_lt (by omega) (by omega)]
    exact ⟨q.1, e1, by omega, e3, e4, by omega⟩
  · unfold wn at h0; rw [if_neg q] at h0; omega
/-- A step back leads to where it came from. -/
theorem stp_back {d : Dev} {t dir len : Int} (h : DOk d) (h0 : 0 ≤ t) (h1 : t < d.1 * d.2.1) (hdir : 0 ≤ dir ∧ dir ≤ 3) (hs : 0 ≤ stp d t (opp dir) len) : stp d (stp d t (opp dir) len) dir len = t := by
  obtain ⟨e1, e2, e3, _⟩ := stp_ok h hs
  obtain ⟨⟨x0, x1⟩, ⟨y0, y1⟩, et⟩ := tile_xy h h0 h1
  have ex : stpX d (stp d t (opp dir) len) dir len = t % d.1 := by
    unfold stpX at *; rw [e1]; unfold opp
    have : dir = 0 ∨ dir = 1 ∨ dir = 2 ∨ dir = 3 := by omega
    rcases this with rfl | rfl | rfl | rfl <;> simp <;> omega
  have ey : stpY d (stp d t (opp dir) len) dir len = t / d.1 := by
    unfold stpY at *; rw [e2]; unfold opp
    have : dir = 0 ∨ dir = 1 ∨ dir = 2 ∨ dir = 3 := by omega
    rcases this with rfl | rfl | rfl | rfl <;> simp <;> omega
  generalize stp d t (opp dir) len = s at *
  unfold stp
  rw [ex, ey, if_pos ⟨⟨by omega, by omega⟩, ⟨by omega, by omega⟩⟩]
  omega
theorem stp_inj {d : Dev} {t dir a b : Int} (h : DOk d) (hdir : 0 ≤ dir ∧ dir ≤ 3) (ha : 0 ≤ stp d t dir a) (hb : 0 ≤ stp d t dir b) (e : stp d t dir a = stp d t dir b) : a = b := by
  obtain ⟨e1, e2, _, _⟩ := stp_ok h ha
  obtain ⟨g1, g2, _, _⟩ := stp_ok h hb
  rw [e] at e1 e2
  rw [e1] at g1; rw [e2] at g2
  unfold stpX at g1; unfold stpY at g2
  have : dir = 0 ∨ dir = 1 ∨ dir = 2 ∨ dir = 3 := by omega
  rcases this with rfl | rfl | rfl | rfl <;> simp at g1 g2 <;> omega

def skipP (d : Dev) (p wd wt dir trk : Int) : Prop := (7 ≤ p ∧ (dir = opp wd ∨ (trk ≠ wt ∧ trk ≠ (wt + 1) % d.2.2.1))) ∨ (p < 7 ∧ 1 < d.2.2.1 ∧ (trk + p) % 2 = 1)
instance (d : Dev) (p wd wt dir trk : Int) : Decidable (skipP d p wd wt dir trk) := by unfold skipP; exact inferInstance
def pos1 (v : Int) : List Int := if 0 ≤ v then [v] else []
theorem mem_pos1 {v x : Int} : x ∈ pos1 v ↔ 0 ≤ v ∧ x = v := by
  unfold pos1; split
  · rename_i q; simp [q]
  · rename_i q; simp; omega
theorem pos1_len (v : Int) : (pos1 v).length ≤ 1 := by unfold pos1; split <;> simp
def oneP (d : Dev) (t p dir trk : Int) (j : Nat) : List Int := if 7 ≤ p ∧ (j : Int) + 1 < 1 + trk % 2 then [] else pos1 (wn d (stp d t (opp dir) ((j : Int) + 1)) dir trk)
def candP (d : Dev) (t p wd wt : Int) (dir trk : Nat) : List Int := if skipP d p wd wt dir trk then [] else fm (1 + (trk : Int) % 2).toNat (oneP d t p dir trk)
def dirP (d : Dev) (t p wd wt : Int) (dir : Nat) : List Int := fm d.2.2.1.toNat (candP d t p wd wt dir)
def rawP (d : Dev) (t p wd wt : Int) : List Int := fm 4 (dirP d t p wd wt)
theorem candP_skip {d : Dev} {t p wd wt : Int} {dir trk : Nat} (h : skipP d p wd wt dir trk) : candP d t p wd wt dir trk = [] := by unfold candP; rw [if_pos h]
theorem oneP_len (d : Dev) (t p dir trk : Int) (j : Nat) : (oneP d t p dir trk j).length ≤ 1 := by
  unfold oneP; split; simp; exact pos1_len _
theorem candP_len (d : Dev) (t p wd wt : Int) (dir trk : Nat) : (candP d t p wd wt dir trk).length ≤ 2 := by
  unfold candP; split
  · simp
  · have := fm_len (n := (1 + (trk : Int) % 2).toNat) (g := oneP d t p dir trk) (b := 1) (fun k _ => oneP_len _ _ _ _ _ _)
    omega
theorem dirP_len {d : Dev} (h : DOk d) (t p wd wt : Int) (dir : Nat) : (dirP d t p wd wt dir).length ≤ 8 := by
  have hT := h.2.2.1
  have := fm_len (n := d.2.2.1.toNat) (g := candP d t p wd wt dir) (b := 2) (fun k _ => candP_len _ _ _ _ _ _ _)
  unfold dirP; omega
theorem mem_oneP {d : Dev} {t p dir trk x : Int} {j : Nat} (h : x ∈ oneP d t p dir trk j) : 0 ≤ x ∧ x = wn d (stp d t (opp dir) ((j : Int) + 1)) dir trk := by
  unfold oneP at h
  split at h
  · simp at h
  · have := mem_pos1.1 h; omega
theorem mem_candP {d : Dev} {t p wd wt x : Int} {dir trk : Nat} (h : x ∈ candP d t p wd wt dir trk) : ∃ j : Nat, x ∈ oneP d t p dir trk j := by
  unfold candP at h
  split at h
  · simp at h
  · obtain ⟨j, _, hj⟩ := mem_fm.1 h
    exact ⟨j, hj⟩
theorem oneP_dec {d : Dev} {t p x : Int} {dir trk j : Nat} (h : DOk d) (hdir : dir < 4) (ht : (trk : Int) < d.2.2.1) (hx : x ∈ oneP d t p dir trk j) : 0 ≤ stp d t (opp dir) ((j : Int) + 1) ∧ nTile d x = stp d t (opp dir) ((j : Int) + 1) ∧ 7 ≤ nPin d x ∧ wDir d x = dir ∧ wTrk d x = trk ∧ (0 ≤ x ∧ x < nodesN d) := by
  obtain ⟨h0, e⟩ := mem_oneP hx
  have := wn_dec (s := stp d t (opp dir) ((j : Int) + 1)) (dir := (dir : Int)) (trk := (trk : Int)) h (stp_lt h) (by omega) ⟨by omega, ht⟩ (by rw [← e]; exact h0)
  rw [← e] at this
  exact ⟨this.1, this.2.1, this.2.2.1, this.2.2.2.1, this.2.2.2.2.1, h0, this.2.2.2.2.2⟩
theorem opp_r {dir : Int} (h : 0 ≤ dir ∧ dir ≤ 3) : 0 ≤ opp dir ∧ opp dir ≤ 3 := by unfold opp; omega
theorem rawP_nodup {d : Dev} (h : DOk d) (t p wd wt : Int) : (rawP d t p wd wt).Nodup := by
  have hT := h.2.2.1
  refine fm_nodup (fun dir hdir => fm_nodup (fun trk ht => ?_) ?_) ?_
  · unfold candP
    split
    · simp
    · refine fm_nodup (fun j _ => ?_) (fun i j hij _ x hx y hy e => ?_)
      · unfold oneP pos1; split; simp; split <;> simp
      · have a := oneP_dec h hdir (by omega) hx
        have b := oneP_dec h hdir (by omega) hy
        rw [e] at a
        have := stp_inj (dir := opp dir) h (opp_r (by omega)) a.1 b.1 (by rw [← a.2.1, ← b.2.1])
        omega
  · intro j k hjk hk x hx y hy e
    obtain ⟨i1, hx⟩ := mem_candP hx
    obtain ⟨i2, hy⟩ := mem_candP hy
    have a := oneP_dec h hdir (by omega) hx
    have b := oneP_dec h hdir (by omega) hy
    rw [e] at a
    have := a.2.2.2.2.1
    have := b.2.2.2.2.1
    omega
  · intro j k hjk hk x hx y hy e
    obtain ⟨t1, q1, hx⟩ := mem_fm.1 hx
    obtain ⟨t2, q2, hy⟩ := mem_fm.1 hy
    obtain ⟨i1, hx⟩ := mem_candP hx
    obtain ⟨i2, hy⟩ := mem_candP hy
    have a := oneP_dec h (by omega) (by omega) hx
    have b := oneP_dec h hk (by omega) hy
    rw [e] at a
    have := a.2.2.2.1
    have := b.2.2.2.1
    omega
def outsP (d : Dev) (t : Int) : List Int := if 1 < outP (tk d t) then [t * per d + 5, t * per d + 6] else [t * per d + 5]
def s0P (d : Dev) (n : Int) : List Int := if 7 ≤ nPin d n then outsP d (nTile d n) else []
def rawN (d : Dev) (n : Int) : List Int := s0P d n ++ rawP d (nTile d n) (nPin d n) (wDir d n) (wTrk d n)
def srcsP (d : Dev) (n : Int) : List Int := if rnOkP d n ∧ ¬ (nPin d n = 5 ∨ nPin d n = 6) then insL [] (rawN d n) else []
theorem s0P_len (d : Dev) (n : Int) : (s0P d n).length ≤ 2 := by
  unfold s0P outsP; split
  · split <;> simp
  · simp
theorem rawP_len {d : Dev} (h : DOk d) (t p wd wt : Int) : (rawP d t p wd wt).length ≤ 32 := fm_len (fun k _ => dirP_len h t p wd wt k)
theorem rawN_len {d : Dev} (h : DOk d) (n : Int) : (rawN d n).length ≤ 34 := by
  have := s0P_len d n
  have := rawP_len h (nTile d n) (nPin d n) (wDir d n) (wTrk d n)
  unfold rawN; rw [List.length_append]; omega
theorem srcsP_len (d : Dev) (n : Int) : (srcsP d n).length ≤ 34 := by
  unfold srcsP; split
  · rename_i q
    have := insL_len [] (rawN d n)
    have := rawN_len q.1.1 n
    simp only [List.length_nil] at *; omega
  · simp
theorem tk_of {d : Dev} {t : Int} (h : DOk d ∧ 0 ≤ t ∧ t < d.1 * d.2.1) : tk d t = 0 ∨ tk d t = 1 ∨ tk d t = 2 := by
  unfold tk; rw [if_pos h]; unfold tkp; split; omega; split <;> omega
theorem outP_one {d : Dev} {t : Int} (h : DOk d ∧ 0 ≤ t ∧ t < d.1 * d.2.1) : 1 ≤ outP (tk d t) := by
  rcases tk_of h with e | e | e <;> rw [e] <;> decide
theorem rawN_nodup {d : Dev} {n : Int} (h : rnOkP d n) : (rawN d n).Nodup := by
  have hd := h.1
  obtain ⟨⟨ht0, ht1⟩, _, _⟩ := node_tp hd h.2.1 h.2.2.1
  unfold rawN
  rw [List.nodup_append]
  refine ⟨?_, rawP_nodup hd _ _ _ _, ?_⟩
  · unfold s0P outsP; split
    · split <;> simp <;> omega
    · simp
  · intro x hx y hy e
    have hT := hd.2.2.1
    have hp := per_le hd
    obtain ⟨dir, q0, hy⟩ := mem_fm.1 hy
    obtain ⟨t2, q2, hy⟩ := mem_fm.1 hy
    obtain ⟨i2, hy⟩ := mem_candP hy
    have b := (oneP_dec hd q0 (by omega) hy).2.2.1
    rw [← e] at b
    unfold s0P at hx
    split at hx
    · have : x = nTile d n * per d + 5 ∨ x = nTile d n * per d + 6 := by
        unfold outsP at hx
        split at hx <;> simp at hx <;> omega
      unfold nPin at b
      rcases this with e2 | e2
      · rw [e2, Int.add_comm, Int.add_mul_emod_self_right, Int.emod_eq_of_lt (by omega) (by omega)] at b; omega
      · rw [e2, Int.add_comm, Int.add_mul_emod_self_right, Int.emod_eq_of_lt (by omega) (by omega)] at b; omega
    · simp at hx
theorem outPin_at {d : Dev} {t k : Int} (h : 0 ≤ k ∧ k < outP (tk d t)) : outPinP d t k = t * per d + 5 + k := by unfold outPinP; rw [if_pos h]
theorem srcs_spec (d : Dev) (n : Int) : spec_Sources (d, n) = some (srcsP d n) := by
  unfold spec_Sources srcsP
  simp only [rnOk_spec, Option.bind_some]
  by_cases h : rnOkP d n
  rotate_left
  · rw [df h, if_neg (fun e => h e.1)]; rfl
  have hd := h.1
  have hT := hd.2.2.1
  have hp := per_le hd
  have hn := nodesN_le hd
  have h2 := h.2.2.1
  have hm := mul_le36 hd.1 hd.2.1
  obtain ⟨⟨ht0, ht1⟩, ⟨hp0, hp1⟩, _⟩ := node_tp hd h.2.1 h.2.2.1
  simp only [dt h, Bool.not_true, cond_false, per_spec hd, Option.bind_some]
  rw [gdiv_nn h.2.1 (by omega) (by omega), grem_nn h.2.1 (by omega)]
  have e1 : n / per d = nTile d n := rfl
  have e2 : n % per d = nPin d n := rfl
  simp only [Option.bind_some, e1, e2]
  by_cases q5 : nPin d n = 5
  · rw [dt q5, if_neg (fun e => e.2 (Or.inl q5))]; rfl
  rw [df q5, cond_false]
  by_cases q6 : nPin d n = 6
  · rw [dt q6, if_neg (fun e => e.2 (Or.inr q6))]; rfl
  rw [df q6, cond_false, if_pos ⟨h, by omega⟩]
  have hjoin : ∃ a b, (7 ≤ nPin d n → a = wDir d n ∧ b = wTrk d n) ∧ (bif decide (7 ≤ nPin d n) then (
      (spec_l27Wire (d, n)).bind fun v10 =>
      (spec_OutPin (d, (nTile d n, 0))).bind fun v11 =>
      let v12 : List Int := [v11]
      (gapp 8 ([] : List Int) v12).bind fun v13 =>
      (spec_TileKind (d, nTile d n)).bind fun v14 =>
      (spec_OutPins v14).bind fun v15 =>
      let v16 : Bool := decide (1 < v15)
      bif v16 then (
        (spec_OutPin (d, (nTile d n, 1))).bind fun v17 =>
        let v18 : List Int := [v17]
        (gapp 8 v13 v18).bind fun v19 =>
        some (.inl (v10.1, (v10.2, v19)))) else
      some (.inl (v10.1, (v10.2, v13)))) else
    some ((.inl (0, (0, ([] : List Int)))) : (Int × (Int × List Int)) ⊕ List Int)) = some (.inl (a, (b, s0P d n))) := by
    by_cases h7 : 7 ≤ nPin d n
    · refine ⟨wDir d n, wTrk d n, fun _ => ⟨rfl, rfl⟩, ?_⟩
      have ho := outP_one (d := d) (t := nTile d n) ⟨hd, ht0, ht1⟩
      rw [dt h7, cond_true, l27Wire_spec hd h.2.1 h7]
      simp only [Option.bind_some]
      rw [outPin_spec d (nTile d n) 0 (by omega), outPin_at (by omega)]
      simp only [Option.bind_some]
      rw [gapp_ok (by simp), tk_spec d (nTile d n) (by omega)]
      simp only [Option.bind_some]
      rw [outPins_spec]
      simp only [Option.bind_some]
      unfold s0P outsP
      rw [if_pos h7]
      by_cases q : 1 < outP (tk d (nTile d n))
      · rw [dt q, cond_true, if_pos q, outPin_spec d (nTile d n) 1 (by omega), outPin_at (by omega)]
        simp only [Option.bind_some]
        rw [gapp_ok (by simp)]
        simp only [Option.bind_some, List.nil_append, List.cons_append, Int.add_zero]
        have : nTile d n * per d + 5 + 1 = nTile d n * per d + 6 := by omega
        rw [this]
      · rw [df q, cond_false, if_neg q]
        simp only [List.nil_append, Int.add_zero]
    · refine ⟨0, 0, fun e => absurd e h7, ?_⟩
      rw [df h7, cond_false]
      unfold s0P; rw [if_neg h7]
  obtain ⟨a, b, hab, hjoin⟩ := hjoin
  dsimp only at hjoin
  rw [hjoin]
  rw [joinO_inl]
  dsimp only
  have hs0 := s0P_len d n
  have wdr : 7 ≤ nPin d n → (0 ≤ a ∧ a ≤ 3) ∧ (0 ≤ b ∧ b < d.2.2.1) := by
    intro h7
    obtain ⟨hdir, hk, _⟩ := wire_dt hd h.2.1 h7 h.2.2.1
    rw [(hab h7).1, (hab h7).2]; exact ⟨hdir, hk⟩
  have e00 : ((0 : Int), s0P d n) = (fun k : Nat => ((k : Int), s0P d n ++ fm k (dirP d (nTile d n) (nPin d n) (wDir d n) (wTrk d n)))) 0 := by
    dsimp only; rw [fm_zero, List.append_nil]; rfl
  rw [e00]
  refine loop_upto 4 (fun k => ((k : Int), s0P d n ++ fm k (dirP d (nTile d n) (nPin d n) (wDir d n) (wTrk d n)))) (fun dir hdir => ?_) ?_
  · dsimp only
    rw [dt (by omega), cond_true]
    have l1 := fm_len (n := dir) (g := dirP d (nTile d n) (nPin d n) (wDir d n) (wTrk d n)) (b := 8) (fun k _ => dirP_len hd _ _ _ _ k)
    rw [fm_succ, ← List.append_assoc]
    have l0 : (s0P d n ++ fm dir (dirP d (nTile d n) (nPin d n) (wDir d n) (wTrk d n))).length ≤ 34 := by rw [List.length_append]; omega
    generalize s0P d n ++ fm dir (dirP d (nTile d n) (nPin d n) (wDir d n) (wTrk d n)) = A at *
    unfold dirP
    have e0 : ((0 : Int), A) = (fun k : Nat => ((k : Int), A ++ fm k (candP d (nTile d n) (nPin d n) (wDir d n) (wTrk d n) dir))) 0 := by
      dsimp only; rw [fm_zero, List.append_nil]; rfl
    rw [e0]
    refine loop_upto d.2.2.1.toNat (fun k => ((k : Int), A ++ fm k (candP d (nTile d n) (nPin d n) (wDir d n) (wTrk d n) dir))) (fun trk ht => ?_) ?_
    · dsimp only
      rw [dt (by omega), cond_true]
      have l1 := fm_len (n := trk) (g := candP d (nTile d n) (nPin d n) (wDir d n) (wTrk d n) dir) (b := 2) (fun k _ => candP_len _ _ _ _ _ _ _)
      rw [fm_succ, ← List.append_assoc]
      have l0 : (A ++ fm trk (candP d (nTile d n) (nPin d n) (wDir d n) (wTrk d n) dir)).length ≤ 50 := by rw [List.length_append]; omega
      generalize A ++ fm trk (candP d (nTile d n) (nPin d n) (wDir d n) (wTrk d n) dir) = B at *
      have inner : ¬ skipP d (nPin d n) (wDir d n) (wTrk d n) dir trk → Pu.loop (fun (v15 : (Int × List Int)) =>
                (grem (trk : Int) 2).bind fun v16 =>
                let v17 : Int := wrap .i64 (1 + v16)
                let v18 : Bool := decide (v15.1 ≤ v17)
                bif v18 then (
                  let v19 : Bool := decide (7 ≤ nPin d n)
                  bif v19 then (
                    (grem (trk : Int) 2).bind fun v20 =>
                    let v21 : Int := wrap .i64 (1 + v20)
                    let v22 : Bool := decide (v15.1 < v21)
                    bif v22 then (
                      let v23 : Int := wrap .i64 (v15.1 + 1)
                      some (.inl (v23, v15.2))) else
                    let v23 : Int := wrap .i64 ((dir : Int) + 2)
                    (grem v23 4).bind fun v24 =>
                    (spec_TileStep (d, (nTile d n, (v24, v15.1)))).bind fun v25 =>
                    (spec_WireNode (d, (v25, ((dir : Int), (trk : Int))))).bind fun v26 =>
                    let v27 : Bool := decide (0 ≤ v26)
                    bif v27 then (
                      let v28 : List Int := [v26]
                      (gapp 8 v15.2 v28).bind fun v29 =>
                      let v30 : Int := wrap .i64 (v15.1 + 1)
                      some (.inl (v30, v29))) else
                    let v28 : Int := wrap .i64 (v15.1 + 1)
                    some (.inl (v28, v15.2))) else
                  let v20 : Int := wrap .i64 ((dir : Int) + 2)
                  (grem v20 4).bind fun v21 =>
                  (spec_TileStep (d, (nTile d n, (v21, v15.1)))).bind fun v22 =>
                  (spec_WireNode (d, (v22, ((dir : Int), (trk : Int))))).bind fun v23 =>
                  let v24 : Bool := decide (0 ≤ v23)
                  bif v24 then (
                    let v25 : List Int := [v23]
                    (gapp 8 v15.2 v25).bind fun v26 =>
                    let v27 : Int := wrap .i64 (v15.1 + 1)
                    some (.inl (v27, v26))) else
                  let v25 : Int := wrap .i64 (v15.1 + 1)
                  some (.inl (v25, v15.2))) else
                Option.map Sum.inr (
                  let v19 : Int := wrap .i64 ((trk : Int) + 1)
                  some ((.inl (v19, v15.2)) : (Int × List Int) ⊕ ((Int × List Int) ⊕ List Int)))) (1, B) = some (.inl (((trk + 1 : Nat) : Int), B ++ candP d (nTile d n) (nPin d n) (wDir d n) (wTrk d n) dir trk)) := by
        intro hs
        unfold candP
        rw [if_neg hs]
        have e0 : ((1 : Int), B) = (fun k : Nat => ((k : Int) + 1, B ++ fm k (oneP d (nTile d n) (nPin d n) dir trk))) 0 := by
          dsimp only; rw [fm_zero, List.append_nil]; rfl
        rw [e0]
        refine loop_upto (1 + (trk : Int) % 2).toNat (fun k => ((k : Int) + 1, B ++ fm k (oneP d (nTile d n) (nPin d n) dir trk))) (fun j hj => ?_) ?_
        · dsimp only
          rw [grem_nn (by omega) (by omega)]
          simp only [Option.bind_some]
          rw [wrap_ok (z := 1 + (trk : Int) % 2) (by omega), dt (by omega), cond_true, wrap_ok (z := (dir : Int) + 2) (by omega), grem_nn (by omega) (by omega), wrap_ok (z := (j : Int) + 1 + 1) (by omega)]
          simp only [Option.bind_some]
          have eo : ((dir : Int) + 2) % 4 = opp dir := rfl
          rw [eo, stp_spec hd ht0 ht1 (opp_r (by omega)) (by omega)]
          simp only [Option.bind_some]
          rw [wn_spec hd (stp_lt hd) (by omega) (by omega)]
          simp only [Option.bind_some]
          have l1 := fm_len (n := j) (g := oneP d (nTile d n) (nPin d n) dir trk) (b := 1) (fun k _ => oneP_len _ _ _ _ _ _)
          rw [fm_succ, ← List.append_assoc]
          have l0 : (B ++ fm j (oneP d (nTile d n) (nPin d n) dir trk)).length ≤ 60 := by rw [List.length_append]; omega
          generalize B ++ fm j (oneP d (nTile d n) (nPin d n) dir trk) = C at *
          unfold oneP pos1
          by_cases h7 : 7 ≤ nPin d n
          · rw [dt h7, cond_true]
            by_cases hl : (j : Int) + 1 < 1 + (trk : Int) % 2
            · rw [dt hl, cond_true, if_pos ⟨h7, hl⟩, List.append_nil]; rfl
            · rw [df hl, cond_false, if_neg (fun e => hl e.2)]
              by_cases hv : 0 ≤ wn d (stp d (nTile d n) (opp dir) ((j : Int) + 1)) dir trk
              · rw [dt hv, cond_true, if_pos hv, gapp_ok (by simp; omega)]; rfl
              · rw [df hv, cond_false, if_neg hv, List.append_nil]; rfl
          · rw [df h7, cond_false, if_neg (fun e => h7 e.1)]
            by_cases hv : 0 ≤ wn d (stp d (nTile d n) (opp dir) ((j : Int) + 1)) dir trk
            · rw [dt hv, cond_true, if_pos hv, gapp_ok (by simp; omega)]; rfl
            · rw [df hv, cond_false, if_neg hv, List.append_nil]; rfl
        · dsimp only
          rw [grem_nn (by omega) (by omega)]
          simp only [Option.bind_some]
          rw [wrap_ok (z := 1 + (trk : Int) % 2) (by omega), df (by omega), cond_false, wrap_ok (z := (trk : Int) + 1) (by omega)]
          rfl
      dsimp only at inner
      by_cases h7 : 7 ≤ nPin d n
      · obtain ⟨ea, eb⟩ := hab h7
        obtain ⟨hra, hrb⟩ := wdr h7
        rw [dt h7] at inner
        rw [dt h7, cond_true, wrap_ok (z := a + 2) (by omega), grem_nn (by omega) (by omega)]
        simp only [Option.bind_some]
        have eo : (a + 2) % 4 = opp (wDir d n) := by rw [← ea]; rfl
        rw [eo]
        by_cases g1 : (dir : Int) = opp (wDir d n)
        · rw [dt g1, cond_true, wrap_ok (z := (trk : Int) + 1) (by omega)]
          rw [candP_skip (Or.inl ⟨h7, Or.inl g1⟩), List.append_nil]; rfl
        rw [df g1, cond_false]
        by_cases g2 : (trk : Int) ≠ b
        · rw [dt g2, cond_true, wrap_ok (z := b + 1) (by omega), grem_nn (by omega) (by omega)]
          simp only [Option.bind_some]
          by_cases g3 : (trk : Int) ≠ (b + 1) % d.2.2.1
          · rw [dt g3, cond_true, wrap_ok (z := (trk : Int) + 1) (by omega)]
            rw [candP_skip (Or.inl ⟨h7, Or.inr ⟨by rw [← eb]; exact g2, by rw [← eb]; exact g3⟩⟩), List.append_nil]; rfl
          · rw [df g3, cond_false, df (show ¬ nPin d n < 7 by omega), cond_false]
            refine inner ?_
            unfold skipP
            rw [← eb]
            rintro (⟨_, e | e⟩ | ⟨e, _⟩)
            · exact g1 e
            · exact g3 e.2
            · omega
        · rw [df g2, cond_false, df (show ¬ nPin d n < 7 by omega), cond_false]
          refine inner ?_
          unfold skipP
          rw [← eb]
          rintro (⟨_, e | e⟩ | ⟨e, _⟩)
          · exact g1 e
          · exact g2 e.1
          · omega
      · rw [df h7] at inner
        rw [df h7, cond_false, dt (show nPin d n < 7 by omega), cond_true]
        by_cases g1 : 1 < d.2.2.1
        · rw [dt g1, cond_true, wrap_ok (z := (trk : Int) + nPin d n) (by omega), grem_nn (by omega) (by omega)]
          simp only [Option.bind_some]
          by_cases g2 : ((trk : Int) + nPin d n) % 2 = 1
          · rw [dt g2, cond_true, wrap_ok (z := (trk : Int) + 1) (by omega)]
            rw [candP_skip (Or.inr ⟨by omega, g1, g2⟩), List.append_nil]; rfl
          · rw [df g2, cond_false]
            refine inner ?_
            rintro (⟨e, _⟩ | ⟨_, _, e⟩)
            · omega
            · exact g2 e
        · rw [df g1, cond_false]
          refine inner ?_
          rintro (⟨e, _⟩ | ⟨_, e, _⟩)
          · omega
          · exact g1 e
    · dsimp only
      rw [df (by omega), cond_false, wrap_ok (z := (dir : Int) + 1) (by omega)]; rfl
  · dsimp only
    rw [df (by omega), cond_false]
    have hl := rawN_len hd n
    have hnd := rawN_nodup h
    unfold rawN rawP at *
    rw [sort_nodup (by omega) hnd]; rfl
theorem ins_pos (l : List Int) (v : Int) : (if 0 ≤ v then ins l v else l) = insL l (pos1 v) := by
  unfold pos1; split
  · rfl
  · rfl
theorem pinSrcs_impl {d : Dev} (h : DOk d) {t p : Int} (ht0 : 0 ≤ t) (ht1 : t < d.1 * d.2.1) (hp : 0 ≤ p ∧ p < 5) (wd wt : Int) : impl_pinSources (d, (t, p)) = some (insL [] (rawP d t p wd wt)) := by
  unfold impl_pinSources
  have hT := h.2.2.1
  have hlen : ∀ (xs : List Int), xs.length ≤ 100 → (insL [] xs).length ≤ 100 := by
    intro xs hx
    have := insL_len [] xs
    simp at this; omega
  refine loop_upto 4 (fun k => (insL [] (fm k (dirP d t p wd wt)), (k : Int))) (fun dir hdir => ?_) ?_
  · dsimp only
    rw [dt (by omega), cond_true]
    have l1 := fm_len (n := dir) (g := dirP d t p wd wt) (b := 8) (fun k _ => dirP_len h _ _ _ _ k)
    rw [fm_succ]
    generalize fm dir (dirP d t p wd wt) = A at *
    unfold dirP
    have e0 : ((0 : Int), insL [] A) = (fun k : Nat => ((k : Int), insL [] (A ++ fm k (candP d t p wd wt dir)))) 0 := by
      dsimp only; rw [fm_zero, List.append_nil]; rfl
    rw [e0]
    refine loop_upto d.2.2.1.toNat (fun k => ((k : Int), insL [] (A ++ fm k (candP d t p wd wt dir)))) (fun trk ht => ?_) ?_
    · dsimp only
      rw [dt (by omega), cond_true]
      have l1 := fm_len (n := trk) (g := candP d t p wd wt dir) (b := 2) (fun k _ => candP_len _ _ _ _ _ _ _)
      rw [fm_succ, ← List.append_assoc]
      have l0 : (A ++ fm trk (candP d t p wd wt dir)).length ≤ 50 := by rw [List.length_append]; omega
      generalize A ++ fm trk (candP d t p wd wt dir) = B at *
      have inner : ¬ skipP d p wd wt dir trk → Pu.loop (fun (v6 : (Int × List Int)) =>
              (impl_wireLength (trk : Int)).bind fun v7 =>
              let v8 : Bool := decide (v6.1 ≤ v7)
              bif v8 then (
                let v9 : Int := wrap .i64 ((dir : Int) + 2)
                (grem v9 4).bind fun v10 =>
                (impl_tileStep (d, (t, (v10, v6.1)))).bind fun v11 =>
                let v12 : Bool := decide (v11 < 0)
                bif v12 then (
                  let v13 : Int := wrap .i64 (v6.1 + 1)
                  some (.inl (v13, v6.2))) else
                (impl_WireNode (d, (v11, ((dir : Int), (trk : Int))))).bind fun v13 =>
                let v14 : Bool := decide (0 ≤ v13)
                bif v14 then (
                  (impl_insertInt (v6.2, v13)).bind fun v15 =>
                  let v16 : Int := wrap .i64 (v6.1 + 1)
                  some (.inl (v16, v15))) else
                let v15 : Int := wrap .i64 (v6.1 + 1)
                some (.inl (v15, v6.2))) else
              Option.map Sum.inr (
                let v9 : Int := wrap .i64 ((trk : Int) + 1)
                some ((.inl (v9, v6.2)) : (Int × List Int) ⊕ ((List Int × Int) ⊕ List Int)))) (1, insL [] B) = some (.inl (((trk + 1 : Nat) : Int), insL [] (B ++ candP d t p wd wt dir trk))) := by
        intro hs
        unfold candP
        rw [if_neg hs]
        have e0 : ((1 : Int), insL [] B) = (fun k : Nat => ((k : Int) + 1, insL [] (B ++ fm k (oneP d t p dir trk)))) 0 := by
          dsimp only; rw [fm_zero, List.append_nil]; rfl
        rw [e0]
        refine loop_upto (1 + (trk : Int) % 2).toNat (fun k => ((k : Int) + 1, insL [] (B ++ fm k (oneP d t p dir trk)))) (fun j hj => ?_) ?_
        · dsimp only
          rw [wireLen_impl (by omega)]
          simp only [Option.bind_some]
          rw [dt (by omega), cond_true, wrap_ok (z := (dir : Int) + 2) (by omega), grem_nn (by omega) (by omega), wrap_ok (z := (j : Int) + 1 + 1) (by omega)]
          simp only [Option.bind_some]
          have eo : ((dir : Int) + 2) % 4 = opp dir := rfl
          rw [eo, stp_impl h ht0 ht1 (opp_r (by omega)) (by omega)]
          simp only [Option.bind_some]
          have l1 := fm_len (n := j) (g := oneP d t p dir trk) (b := 1) (fun k _ => oneP_len _ _ _ _ _ _)
          rw [fm_succ, ← List.append_assoc]
          have l0 : (B ++ fm j (oneP d t p dir trk)).length ≤ 60 := by rw [List.length_append]; omega
          have l2 := hlen _ (Nat.le_trans l0 (by decide))
          generalize B ++ fm j (oneP d t p dir trk) = C at *
          rw [insL_app]
          unfold oneP
          rw [if_neg (fun e => by omega)]
          by_cases q : stp d t (opp dir) ((j : Int) + 1) < 0
          · rw [dt q, cond_true]
            have : wn d (stp d t (opp dir) ((j : Int) + 1)) dir trk = -1 := by unfold wn; rw [if_neg (by omega)]
            rw [this]; rfl
          rw [df q, cond_false, wn_impl h (stp_lt h) (by omega) (by omega)]
          simp only [Option.bind_some]
          rw [← ins_pos]
          by_cases hv : 0 ≤ wn d (stp d t (opp dir) ((j : Int) + 1)) dir trk
          · rw [dt hv, cond_true, if_pos hv, insert_impl _ _ (by omega)]; rfl
          · rw [df hv, cond_false, if_neg hv]; rfl
        · dsimp only
          rw [wireLen_impl (by omega)]
          simp only [Option.bind_some]
          rw [df (by omega), cond_false, wrap_ok (z := (trk : Int) + 1) (by omega)]
          rfl
      dsimp only at inner
      by_cases g1 : 1 < d.2.2.1
      · rw [dt g1, cond_true, wrap_ok (z := (trk : Int) + p) (by omega), grem_nn (by omega) (by omega)]
        simp only [Option.bind_some]
        by_cases g2 : ((trk : Int) + p) % 2 ≠ 0
        · rw [dt g2, cond_true, wrap_ok (z := (trk : Int) + 1) (by omega)]
          rw [candP_skip (Or.inr ⟨by omega, g1, by omega⟩), List.append_nil]; rfl
        · rw [df g2, cond_false]
          refine inner ?_
          rintro (⟨e, _⟩ | ⟨_, _, e⟩)
          · omega
          · omega
      · rw [df g1, cond_false]
        refine inner ?_
        rintro (⟨e, _⟩ | ⟨_, e, _⟩)
        · omega
        · exact g1 e
    · dsimp only
      rw [df (by omega), cond_false, wrap_ok (z := (dir : Int) + 1) (by omega)]; rfl
  · dsimp only
    rw [df (by omega), cond_false]; rfl
def outI (d : Dev) (t : Int) (k : Nat) : List Int := pos1 (outPinP d t k)
def trkI (d : Dev) (wt : Int) (i : Nat) : Int := if i = 0 then wt else (wt + 1) % d.2.2.1
def oneI (d : Dev) (t wt : Int) (dir i : Nat) : List Int := if 0 ≤ stp d t (opp dir) (1 + trkI d wt i % 2) then [wn d (stp d t (opp dir) (1 + trkI d wt i % 2)) dir (trkI d wt i)] else []
def candI (d : Dev) (t wd wt : Int) (dir : Nat) : List Int := if (dir : Int) = opp wd then [] else fm 2 (oneI d t wt dir)
def rawI (d : Dev) (t wd wt : Int) : List Int := fm 2 (outI d t) ++ fm 4 (candI d t wd wt)
theorem oneI_len (d : Dev) (t wt : Int) (dir i : Nat) : (oneI d t wt dir i).length ≤ 1 := by unfold oneI; split <;> simp
theorem candI_len (d : Dev) (t wd wt : Int) (dir : Nat) : (candI d t wd wt dir).length ≤ 2 := by
  unfold candI; split
  · simp
  · exact fm_len (fun k _ => oneI_len _ _ _ _ _)
theorem trkI_r {d : Dev} (h : DOk d) {wt : Int} (hwt : 0 ≤ wt ∧ wt < d.2.2.1) (i : Nat) : 0 ≤ trkI d wt i ∧ trkI d wt i < d.2.2.1 := by
  have hT := h.2.2.1
  unfold trkI; split
  · exact hwt
  · exact ⟨Int.emod_nonneg _ (by omega), Int.emod_lt_of_pos _ (by omega)⟩
theorem mem_out {d : Dev} {n x : Int} (h : DOk d ∧ 0 ≤ nTile d n ∧ nTile d n < d.1 * d.2.1) (h7 : 7 ≤ nPin d n) : x ∈ fm 2 (outI d (nTile d n)) ↔ x ∈ s0P d n := by
  have ho := outP_one h
  have ho2 := outP_le (tk d (nTile d n))
  have hp := per_le h.1
  have hm : 0 ≤ nTile d n * per d := Int.mul_nonneg (by omega) (by omega)
  have e0 : outPinP d (nTile d n) ((0 : Nat) : Int) = nTile d n * per d + 5 := by
    rw [outPin_at ⟨by omega, by omega⟩]; simp
  have ef : fm 2 (outI d (nTile d n)) = outI d (nTile d n) 0 ++ outI d (nTile d n) 1 := by rw [fm_succ, fm_succ, fm_zero]; rfl
  rw [ef]
  unfold outI
  rw [e0, List.mem_append, mem_pos1, mem_pos1]
  unfold s0P outsP
  rw [if_pos h7]
  by_cases q : 1 < outP (tk d (nTile d n))
  · rw [if_pos q, outPin_at (by omega)]
    simp
    omega
  · rw [if_neg q]
    have : outPinP d (nTile d n) ((1 : Nat) : Int) = -1 := by unfold outPinP; rw [if_neg (by omega)]
    rw [this]
    simp
    omega
theorem mem_cand {d : Dev} {t p wd wt x : Int} {dir : Nat} (h : DOk d) (ht0 : 0 ≤ t) (ht1 : t < d.1 * d.2.1) (h7 : 7 ≤ p) (hdir : dir < 4) (hwt : 0 ≤ wt ∧ wt < d.2.2.1) : x ∈ candI d t wd wt dir ↔ x ∈ dirP d t p wd wt dir := by
  have hT := h.2.2.1
  constructor
  · intro hx
    unfold candI at hx
    split at hx
    · simp at hx
    rename_i hne
    obtain ⟨i, hi, hx⟩ := mem_fm.1 hx
    unfold oneI at hx
    split at hx
    rotate_left
    · simp at hx
    rename_i hs
    have hx := List.mem_singleton.1 hx
    obtain ⟨hb0, hb1⟩ := trkI_r h hwt i
    have hb : trkI d wt i = wt ∨ trkI d wt i = (wt + 1) % d.2.2.1 := by unfold trkI; split; exact Or.inl rfl; exact Or.inr rfl
    generalize trkI d wt i = b at *
    obtain ⟨n, rfl⟩ : ∃ n : Nat, b = (n : Int) := ⟨b.toNat, by omega⟩
    have hback := stp_back (dir := (dir : Int)) h ht0 ht1 (by omega) hs
    have hv : 0 ≤ wn d (stp d t (opp dir) (1 + (n : Int) % 2)) dir n := by
      unfold wn
      rw [if_pos ⟨hs, by rw [hback]; exact ht0⟩]
      have hp := per_le h
      have m1 := Int.mul_nonneg hs (show 0 ≤ per d by omega)
      have m2 := Int.mul_nonneg (show 0 ≤ (dir : Int) by omega) (show 0 ≤ d.2.2.1 by omega)
      omega
    refine mem_fm.2 ⟨n, by omega, ?_⟩
    unfold candP
    rw [if_neg (by
      rintro (⟨_, e | e⟩ | ⟨e, _⟩)
      · exact hne e
      · rcases hb with e1 | e1
        · exact e.1 e1
        · exact e.2 e1
      · omega)]
    refine mem_fm.2 ⟨((n : Int) % 2).toNat, by omega, ?_⟩
    unfold oneP
    have ej : (((n : Int) % 2).toNat : Int) + 1 = 1 + (n : Int) % 2 := by omega
    rw [if_neg (by omega), ej, mem_pos1]
    exact ⟨hv, hx⟩
  · intro hx
    obtain ⟨n, hn, hx⟩ := mem_fm.1 hx
    unfold candP at hx
    split at hx
    · simp at hx
    rename_i hs
    obtain ⟨j, hj, hx⟩ := mem_fm.1 hx
    unfold oneP at hx
    split at hx
    · simp at hx
    rename_i hl
    have ej : (j : Int) + 1 = 1 + (n : Int) % 2 := by omega
    rw [ej] at hx
    obtain ⟨hv, hx⟩ := mem_pos1.1 hx
    have hs0 := (wn_dec (s := stp d t (opp dir) (1 + (n : Int) % 2)) (dir := (dir : Int)) (trk := (n : Int)) h (stp_lt h) (by omega) (by omega) hv).1
    unfold candI
    have hne : ¬ (dir : Int) = opp wd := fun e => hs (Or.inl ⟨h7, Or.inl e⟩)
    rw [if_neg hne]
    have hb : ∃ i, i < 2 ∧ trkI d wt i = (n : Int) := by
      by_cases q : (n : Int) = wt
      · exact ⟨0, by omega, by unfold trkI; rw [if_pos rfl]; exact q.symm⟩
      · refine ⟨1, by omega, ?_⟩
        unfold trkI; rw [if_neg (by omega)]
        by_cases q2 : (n : Int) = (wt + 1) % d.2.2.1
        · exact q2.symm
        · exact absurd (Or.inl ⟨h7, Or.inr ⟨q, q2⟩⟩) hs
    obtain ⟨i, hi, hb⟩ := hb
    refine mem_fm.2 ⟨i, hi, ?_⟩
    unfold oneI
    rw [hb, if_pos hs0]
    exact List.mem_singleton.2 hx
theorem mem_raw {d : Dev} {n x : Int} (h : rnOkP d n) (h7 : 7 ≤ nPin d n) : x ∈ rawI d (nTile d n) (wDir d n) (wTrk d n) ↔ x ∈ rawN d n := by
  have hd := h.1
  obtain ⟨⟨ht0, ht1⟩, _, _⟩ := node_tp hd h.2.1 h.2.2.1
  obtain ⟨hdir, hk, _⟩ := wire_dt hd h.2.1 h7 h.2.2.1
  unfold rawI rawN
  rw [List.mem_append, List.mem_append, mem_out ⟨hd, ht0, ht1⟩ h7]
  have : x ∈ fm 4 (candI d (nTile d n) (wDir d n) (wTrk d n)) ↔ x ∈ rawP d (nTile d n) (nPin d n) (wDir d n) (wTrk d n) := by
    unfold rawP
    rw [mem_fm, mem_fm]
    constructor
    · rintro ⟨k, hk1, hk2⟩
      exact ⟨k, hk1, (mem_cand hd ht0 ht1 h7 hk1 hk).1 hk2⟩
    · rintro ⟨k, hk1, hk2⟩
      exact ⟨k, hk1, (mem_cand hd ht0 ht1 h7 hk1 hk).2 hk2⟩
  rw [this]
theorem wireSrcs_impl {d : Dev} (h : DOk d) {t wd wt : Int} (ht0 : 0 ≤ t) (ht1 : t < d.1 * d.2.1) (hwd : 0 ≤ wd ∧ wd ≤ 3) (hwt : 0 ≤ wt ∧ wt < d.2.2.1) : impl_wireSources (d, (t, (wd, wt))) = some (insL [] (rawI d t wd wt)) := by
  unfold impl_wireSources rawI
  have hT := h.2.2.1
  have hm := mul_le36 h.1 h.2.1
  have hlen : ∀ (xs : List Int), xs.length ≤ 100 → (insL [] xs).length ≤ 100 := by
    intro xs hx
    have := insL_len [] xs
    simp at this; omega
  refine loop_upto 2 (fun k => (insL [] (fm k (outI d t)), (k : Int))) (fun k hk => ?_) ?_
  · dsimp only
    rw [dt (by omega), cond_true, outPin_impl d t k (by omega)]
    simp only [Option.bind_some]
    have l1 := fm_len (n := k) (g := outI d t) (b := 1) (fun k _ => pos1_len _)
    have l2 := hlen (fm k (outI d t)) (by omega)
    rw [fm_succ, insL_app, show outI d t k = pos1 (outPinP d t k) from rfl, ← ins_pos, wrap_ok (z := (k : Int) + 1) (by omega)]
    by_cases q : 0 ≤ outPinP d t k
    · rw [dt q, cond_true, if_pos q, insert_impl _ _ (by omega)]; rfl
    · rw [df q, cond_false, if_neg q]; rfl
  · dsimp only
    rw [df (by omega), cond_false]
    have l1 := fm_len (n := 2) (g := outI d t) (b := 1) (fun k _ => pos1_len _)
    generalize fm 2 (outI d t) = A at *
    have e0 : ((0 : Int), insL [] A) = (fun k : Nat => ((k : Int), insL [] (A ++ fm k (candI d t wd wt)))) 0 := by
      dsimp only; rw [fm_zero, List.append_nil]; rfl
    rw [e0]
    refine (Option.map_eq_some_iff).2 ⟨_, ?_, rfl⟩
    refine loop_upto 4 (fun k => ((k : Int), insL [] (A ++ fm k (candI d t wd wt)))) (fun dir hdir => ?_) ?_
    · dsimp only
      rw [dt (by omega), cond_true, wrap_ok (z := wd + 2) (by omega), grem_nn (by omega) (by omega)]
      simp only [Option.bind_some]
      have eo : (wd + 2) % 4 = opp wd := rfl
      rw [eo, fm_succ, ← List.append_assoc]
      have l2 := fm_len (n := dir) (g := candI d t wd wt) (b := 2) (fun k _ => candI_len _ _ _ _ _)
      have l0 : (A ++ fm dir (candI d t wd wt)).length ≤ 50 := by rw [List.length_append]; omega
      generalize A ++ fm dir (candI d t wd wt) = B at *
      unfold candI
      by_cases q : (dir : Int) = opp wd
      · rw [dt q, cond_true, if_pos q, List.append_nil, wrap_ok (z := (dir : Int) + 1) (by omega)]; rfl
      rw [df q, cond_false, if_neg q, wrap_ok (z := wt + 1) (by omega), grem_nn (by omega) (by omega)]
      simp only [Option.bind_some]
      have e0 : ((0 : Int), insL [] B) = (fun k : Nat => ((k : Int), insL [] (B ++ fm k (oneI d t wt dir)))) 0 := by
        dsimp only; rw [fm_zero, List.append_nil]; rfl
      rw [e0]
      refine loop_upto 2 (fun k => ((k : Int), insL [] (B ++ fm k (oneI d t wt dir)))) (fun i hi => ?_) ?_
      · obtain ⟨hb0, hb1⟩ := trkI_r h hwt i
        have eg : gget 0 [wt, (wt + 1) % d.2.2.1] (i : Int) = some (trkI d wt i) := by
          have : i = 0 ∨ i = 1 := by omega
          rcases this with rfl | rfl <;> rfl
        have l3 := fm_len (n := i) (g := oneI d t wt dir) (b := 1) (fun k _ => oneI_len _ _ _ _ _)
        have l4 : (B ++ fm i (oneI d t wt dir)).length ≤ 60 := by rw [List.length_append]; omega
        have l5 := hlen _ (Nat.le_trans l4 (by decide))
        dsimp only [List.length_cons, List.length_nil]
        rw [dt (by omega), cond_true, gin_nat (by omega), eg]
        simp only [Option.bind_some]
        rw [wrap_ok (z := (dir : Int) + 2) (by omega), grem_nn (by omega) (by omega), wireLen_impl hb0]
        simp only [Option.bind_some]
        have eo : ((dir : Int) + 2) % 4 = opp dir := rfl
        rw [eo, stp_impl h ht0 ht1 (opp_r (by omega)) (by omega)]
        simp only [Option.bind_some]
        rw [fm_succ, ← List.append_assoc]
        generalize B ++ fm i (oneI d t wt dir) = C at *
        rw [insL_app]
        unfold oneI
        rw [wrap_ok (z := (i : Int) + 1) (by omega)]
        by_cases q2 : 0 ≤ stp d t (opp dir) (1 + trkI d wt i % 2)
        · rw [dt q2, cond_true, if_pos q2, wn_impl h (stp_lt h) (by omega) ⟨hb0, hb1⟩]
          simp only [Option.bind_some]
          rw [insert_impl _ _ (by omega)]; rfl
        · rw [df q2, cond_false, if_neg q2]; rfl
      · dsimp only [List.length_cons, List.length_nil]
        rw [df (by omega), cond_false, wrap_ok (z := (dir : Int) + 1) (by omega)]; rfl
    · dsimp only
      rw [df (by omega), cond_false]; rfl
theorem srcs_impl (d : Dev) (n : Int) : impl_Sources (d, n) = some (srcsP d n) := by
  unfold impl_Sources srcsP
  simp only [rnOk_impl, Option.bind_some]
  by_cases h : rnOkP d n
  rotate_left
  · rw [df h, if_neg (fun e => h e.1)]; rfl
  have hd := h.1
  have hT := hd.2.2.1
  have hp := per_le hd
  have hn := nodesN_le hd
  have h2 := h.2.2.1
  obtain ⟨⟨ht0, ht1⟩, ⟨hp0, hp1⟩, _⟩ := node_tp hd h.2.1 h.2.2.1
  simp only [dt h, Bool.not_true, cond_false, nplace_impl hd h.2.1 (by omega), Option.bind_some]
  by_cases q5 : nPin d n < 5
  · rw [dt q5, cond_true, if_pos ⟨h, by omega⟩, pinSrcs_impl hd ht0 ht1 ⟨hp0, q5⟩ (wDir d n) (wTrk d n)]
    simp only [Option.bind_some]
    unfold rawN s0P
    rw [if_neg (by omega), List.nil_append]
  rw [df q5, cond_false]
  by_cases q7 : nPin d n < 7
  · rw [dt q7, if_neg (fun e => e.2 (by omega))]; rfl
  rw [df q7, cond_false, if_pos ⟨h, by omega⟩, wireOf_impl hd h.2.1 (by omega) (by omega)]
  simp only [Option.bind_some]
  obtain ⟨hdir, hk, _⟩ := wire_dt hd h.2.1 (by omega) h.2.2.1
  rw [wireSrcs_impl hd ht0 ht1 hdir hk]
  simp only [Option.bind_some]
  congr 1
  exact asc_ext (asc_insL asc_nil) (asc_insL asc_nil) (fun x => by rw [mem_insL, mem_insL, mem_raw h (by omega)])
end Go.Pf

