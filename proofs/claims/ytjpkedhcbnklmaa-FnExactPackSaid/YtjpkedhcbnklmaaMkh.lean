/-
  Own work. The laws' marks in lists of connections and of blocks: what is marked is held.
-/
import Derived.Test.YtjpkedhcbnklmaaPko
import Derived.Test.YtjpkedhcbnklmaaCna
namespace Go.Pf
open Go Go.Pu
set_option linter.unusedVariables false
def mk2 (k : Int) (n : Nat) : List Pin := (List.range n).map fun (j : Nat) => (k + 2 * (j : Int), k + 2 * (j : Int) + 1)
theorem mk2_len (k : Int) (n : Nat) : (mk2 k n).length = n := by simp [mk2]
theorem mk2_succ (k : Int) (n : Nat) : mk2 k (n + 1) = mk2 k n ++ [(k + 2 * (n : Int), k + 2 * (n : Int) + 1)] := by
  unfold mk2; rw [List.range_succ, List.map_append]; rfl
theorem mk2_get (k : Int) (n : Nat) {j : Nat} (h : j < n) : gget ((0, 0) : Pin) (mk2 k n) (j : Int) = some (k + 2 * (j : Int), k + 2 * (j : Int) + 1) := by
  rw [gget_nat (by rw [mk2_len]; exact h)]
  simp [mk2]
theorem markLeS_mk (xs : List Pin) (k : Int) (hk : 0 ≤ k) (hk2 : k ≤ 1099511627776000) (h : xs.length ≤ 1048576) : laws_markLeS (xs, k) = some (k + 2 * (xs.length : Int), mk2 k xs.length) := by
  unfold laws_markLeS
  have e0 : (k, ((0 : Int), xs)) = (fun i : Nat => (k + 2 * (i : Int), ((i : Int), mk2 k i ++ xs.drop i))) 0 := by simp [mk2]
  try dsimp only
  rw [e0]
  refine loop_upto xs.length (fun i => (k + 2 * (i : Int), ((i : Int), mk2 k i ++ xs.drop i))) (fun i hi => ?_) ?_
  · have hml := mk2_len k i
    have hl : (mk2 k i ++ xs.drop i).length = xs.length := by rw [List.length_append, hml, List.length_drop]; omega
    have hd : xs.drop i = xs[i] :: xs.drop (i + 1) := List.drop_eq_getElem_cons hi
    have gs : ∀ (a : List Pin) (x : Pin), i < a.length → gget ((0, 0) : Pin) (a.set i x) (i : Int) = some x := fun a x ha => by
      rw [gget_nat (by rw [List.length_set]; exact ha), List.getElem_set_self]
    try dsimp only
    rw [dt (show (i : Int) < ((mk2 k i ++ xs.drop i).length : Int) by rw [hl]; omega), cond_true, gin_nat (show i < _ by rw [hl]; exact hi), gget_nat (show i < _ by rw [hl]; exact hi)]
    simp only [Option.bind_some]
    rw [gset_nat, List.length_set, gin_nat (show i < _ by rw [hl]; exact hi), gs _ _ (by rw [hl]; exact hi)]
    simp only [Option.bind_some]
    rw [gset_nat, List.set_set, wrap_ok (z := k + 2 * (i : Int) + 1) (by omega), wrap_ok (z := k + 2 * (i : Int) + 1 + 1) (by omega), wrap_ok (z := (i : Int) + 1) (by omega)]
    have e1 : (mk2 k i ++ xs.drop i).set i (k + 2 * (i : Int), k + 2 * (i : Int) + 1) = mk2 k (i + 1) ++ xs.drop (i + 1) := by
      rw [List.set_append_right _ _ (by omega), hml, Nat.sub_self, hd, List.set_cons_zero, mk2_succ]; simp
    rw [e1]
    have e2 : k + 2 * (i : Int) + 1 + 1 = k + 2 * ((i + 1 : Nat) : Int) := by omega
    rw [e2]; rfl
  · have hml := mk2_len k xs.length
    have hl : (mk2 k xs.length ++ xs.drop xs.length).length = xs.length := by rw [List.length_append, hml, List.length_drop]; omega
    try dsimp only
    rw [hl, df (by omega), cond_false, List.drop_of_length_le (Nat.le_refl _), List.append_nil]; rfl
theorem heldLeS_mk (k : Int) (n : Nat) (hk : 0 ≤ k) (hk2 : k ≤ 1099511627776000) (h : n ≤ 1048576) : laws_heldLeS (mk2 k n, k) = some (k + 2 * (n : Int)) := by
  unfold laws_heldLeS
  have e0 : (k, (0 : Int)) = (fun i : Nat => (k + 2 * (i : Int), (i : Int))) 0 := by simp
  have hml := mk2_len k n
  try dsimp only
  rw [e0]
  refine loop_upto n (fun i => (k + 2 * (i : Int), (i : Int))) (fun i hi => ?_) ?_
  · try dsimp only
    rw [hml, dt (show (i : Int) < (n : Int) by omega), cond_true, mk2_get k n hi]
    simp only [Option.bind_some]
    rw [df (by simp), cond_false, wrap_ok (z := k + 2 * (i : Int) + 1) (by omega), df (by simp), cond_false, wrap_ok (z := k + 2 * (i : Int) + 1 + 1) (by omega), wrap_ok (z := (i : Int) + 1) (by omega)]
    have e2 : k + 2 * (i : Int) + 1 + 1 = k + 2 * ((i + 1 : Nat) : Int) := by omega
    rw [e2]; rfl
  · try dsimp only
    rw [hml, df (by omega), cond_false]; rfl

def kG (w : Int) (k : Int) : List Nat → Int
  | [] => k
  | m :: ms => kG w (k + w + 2 * (m : Int)) ms
def marksG {α : Type} (el : Int → Nat → α) (w : Int) (k : Int) : List Nat → List α
  | [] => []
  | m :: ms => el k m :: marksG el w (k + w + 2 * (m : Int)) ms
theorem kG_app (w : Int) (m : Nat) : ∀ (xs : List Nat) (k : Int), kG w k (xs ++ [m]) = kG w k xs + w + 2 * (m : Int)
  | [], k => rfl
  | x :: xs, k => kG_app w m xs _
theorem marksG_app {α : Type} (el : Int → Nat → α) (w : Int) (m : Nat) : ∀ (xs : List Nat) (k : Int), marksG el w k (xs ++ [m]) = marksG el w k xs ++ [el (kG w k xs) m]
  | [], k => rfl
  | x :: xs, k => by
    show el k x :: marksG el w _ (xs ++ [m]) = el k x :: (marksG el w _ xs ++ [_])
    rw [marksG_app el w m xs]; rfl
theorem marksG_len {α : Type} (el : Int → Nat → α) (w : Int) : ∀ (xs : List Nat) (k : Int), (marksG el w k xs).length = xs.length
  | [], k => rfl
  | x :: xs, k => by show (marksG el w _ xs).length + 1 = xs.length + 1; rw [marksG_len el w xs]
def LensOk (xs : List Nat) : Prop := xs.length ≤ 1000 ∧ ∀ m ∈ xs, m ≤ 100000
theorem kG_le {w : Int} (w0 : 0 ≤ w) (w1 : w ≤ 3) : ∀ (xs : List Nat) (k : Int), (∀ m ∈ xs, m ≤ 100000) → k ≤ kG w k xs ∧ kG w k xs ≤ k + 200003 * (xs.length : Int)
  | [], k, _ => by simp [kG]
  | x :: xs, k, h => by
    have h1 := kG_le w0 w1 xs (k + w + 2 * (x : Int)) (fun m hm => h m (List.mem_cons_of_mem _ hm))
    have h2 := h x (by simp)
    show k ≤ kG w (k + w + 2 * (x : Int)) xs ∧ kG w (k + w + 2 * (x : Int)) xs ≤ _
    rw [List.length_cons]
    omega
theorem kG_take {w : Int} (w0 : 0 ≤ w) (w1 : w ≤ 3) {xs : List Nat} (h : LensOk xs) (k : Int) (i : Nat) : k ≤ kG w k (xs.take i) ∧ kG w k (xs.take i) ≤ k + 200003000 := by
  have := kG_le w0 w1 (xs.take i) k (fun m hm => h.2 m (List.mem_of_mem_take hm))
  have h1 := h.1
  have h2 : (xs.take i).length ≤ xs.length := by rw [List.length_take]; omega
  omega
theorem marksG_at {α : Type} {d : α} (el : Int → Nat → α) (w : Int) (xs : List Nat) (k : Int) {i : Nat} (h : i < xs.length) : gget d (marksG el w k xs) (i : Int) = some (el (kG w k (xs.take i)) xs[i]) := by
  have e : marksG el w k xs = marksG el w k (xs.take i) ++ (el (kG w k (xs.take i)) xs[i] :: marksG el w (kG w k (xs.take i) + w + 2 * (xs[i] : Int)) (xs.drop (i + 1))) := by
    have key : ∀ (ys zs : List Nat) (k : Int), marksG el w k (ys ++ zs) = marksG el w k ys ++ marksG el w (kG w k ys) zs := by
      intro ys
      induction ys with
      | nil => intro zs k; rfl
      | cons y ys ih => intro zs k; show el k y :: marksG el w (k + w + 2 * (y : Int)) (ys ++ zs) = el k y :: (marksG el w (k + w + 2 * (y : Int)) ys ++ marksG el w (kG w (k + w + 2 * (y : Int)) ys) zs); rw [ih]
    have h2 : xs = xs.take i ++ (xs[i] :: xs.drop (i + 1)) := by rw [← List.drop_eq_getElem_cons h, List.take_append_drop]
    have h3 := key (xs.take i) (xs[i] :: xs.drop (i + 1)) k
    rw [← h2] at h3
    exact h3
  have hl : (marksG el w k (xs.take i)).length = i := by rw [marksG_len, List.length_take]; omega
  rw [gget_nat (by rw [marksG_len]; exact h)]
  congr 1
  simp only [e]
  rw [List.getElem_append_right (by omega)]
  simp [hl]
def elB (k : Int) (m : Nat) : Blk := (k, (k + 1, mk2 (k + 2) m))
def lensB (bs : List Blk) : List Nat := bs.map fun b => b.2.2.length
theorem markBks_eq (cs : List Blk) (k : Int) (hk : 0 ≤ k) (hk2 : k ≤ 1000000000) (h : LensOk (lensB cs)) : laws_markBlockS (cs, k) = some (kG 2 k (lensB cs), marksG elB 2 k (lensB cs)) := by
  have hlc : (lensB cs).length = cs.length := by simp [lensB]
  have hc1 : cs.length ≤ 1000 := by rw [← hlc]; exact h.1
  unfold laws_markBlockS
  have e0 : (k, ((0 : Int), cs)) = (fun i : Nat => (kG 2 k ((lensB cs).take i), ((i : Int), marksG elB 2 k ((lensB cs).take i) ++ cs.drop i))) 0 := by simp [marksG, kG]
  try dsimp only
  rw [e0]
  refine loop_upto cs.length (fun i => (kG 2 k ((lensB cs).take i), ((i : Int), marksG elB 2 k ((lensB cs).take i) ++ cs.drop i))) (fun i hi => ?_) ?_
  · have hml : (marksG elB 2 k ((lensB cs).take i)).length = i := by rw [marksG_len, List.length_take]; omega
    have hkb := kG_take (w := 2) (by omega) (by omega) h k i
    have hnl : (lensB cs)[i]'(by omega) = cs[i].2.2.length := by simp [lensB]
    have hm : cs[i].2.2.length ≤ 100000 := by rw [← hnl]; exact h.2 _ (List.getElem_mem _)
    have ht : (lensB cs).take (i + 1) = (lensB cs).take i ++ [cs[i].2.2.length] := by rw [take_succ' _ i (by omega), hnl]
    clear hnl
    rw [ht, kG_app, marksG_app]
    clear ht
    generalize kG 2 k ((lensB cs).take i) = z at *
    generalize marksG elB 2 k ((lensB cs).take i) = ms at *
    have hl : (ms ++ cs.drop i).length = cs.length := by rw [List.length_append, hml, List.length_drop]; omega
    have hd : cs.drop i = cs[i] :: cs.drop (i + 1) := List.drop_eq_getElem_cons hi
    have ge : (ms ++ cs.drop i)[i]'(by omega) = cs[i] := by
      rw [List.getElem_append_right (by omega)]
      simp [hml]
    have gs : ∀ (a : List Blk) (x : Blk), i < a.length → gget ((0, (0, [])) : Blk) (a.set i x) (i : Int) = some x := fun a x ha => by
      rw [gget_nat (by rw [List.length_set]; exact ha), List.getElem_set_self]
    have hlt : i < (ms ++ cs.drop i).length := by rw [hl]; exact hi
    try dsimp only
    rw [dt (show (i : Int) < ((ms ++ cs.drop i).length : Int) by rw [hl]; omega), cond_true, gin_nat hlt, gget_nat hlt]
    simp only [Option.bind_some]
    rw [ge, gset_nat, List.length_set, gin_nat hlt, gs _ _ hlt]
    simp only [Option.bind_some]
    rw [gset_nat, List.set_set, List.length_set, gin_nat hlt, gs _ _ hlt]
    simp only [Option.bind_some]
    rw [wrap_ok (z := z + 1) (by omega), wrap_ok (z := z + 1 + 1) (by omega), markLeS_mk _ _ (by omega) (by omega) (by omega)]
    simp only [Option.bind_some]
    rw [gset_nat, List.set_set, wrap_ok (z := (i : Int) + 1) (by omega)]
    have e1 : (ms ++ cs.drop i).set i (elB z cs[i].2.2.length) = ms ++ [elB z cs[i].2.2.length] ++ cs.drop (i + 1) := by
      rw [List.set_append_right _ _ (by omega), hml, Nat.sub_self, hd, List.set_cons_zero]; simp
    have e2 : ((z, (z + 1, mk2 (z + 1 + 1) cs[i].2.2.length)) : Blk) = elB z cs[i].2.2.length := by
      unfold elB
      rw [show z + 1 + 1 = z + 2 by omega]
    rw [e2, e1]
    have e3 : z + 1 + 1 + 2 * (cs[i].2.2.length : Int) = z + 2 + 2 * (cs[i].2.2.length : Int) := by omega
    rw [e3]; rfl
  · have hml : (marksG elB 2 k ((lensB cs).take cs.length)).length = cs.length := by rw [marksG_len, List.length_take]; omega
    have hl : (marksG elB 2 k ((lensB cs).take cs.length) ++ cs.drop cs.length).length = cs.length := by rw [List.length_append, hml, List.length_drop]; omega
    have ht : (lensB cs).take cs.length = lensB cs := by rw [← hlc, List.take_length]
    try dsimp only
    rw [hl, df (by omega), cond_false, List.drop_of_length_le (Nat.le_refl _), List.append_nil, ht]; rfl
theorem heldBks_ok (ls : List Nat) (k : Int) (hk : 0 ≤ k) (hk2 : k ≤ 1000000000) (h : LensOk ls) : laws_heldBlockS (marksG elB 2 k ls, k) = some (kG 2 k ls) := by
  unfold laws_heldBlockS
  have e0 : (k, (0 : Int)) = (fun i : Nat => (kG 2 k (ls.take i), (i : Int))) 0 := by simp [kG]
  have hml := marksG_len elB 2 ls k
  try dsimp only
  rw [e0]
  refine loop_upto ls.length (fun i => (kG 2 k (ls.take i), (i : Int))) (fun i hi => ?_) ?_
  · have hkb := kG_take (w := 2) (by omega) (by omega) h k i
    have hm : ls[i] ≤ 100000 := h.2 _ (List.getElem_mem _)
    have h1 := h.1
    try dsimp only
    rw [hml, dt (show (i : Int) < (ls.length : Int) by omega), cond_true, marksG_at elB 2 ls k hi, take_succ' ls i hi, kG_app]
    generalize kG 2 k (ls.take i) = z at *
    simp only [Option.bind_some]
    unfold elB
    rw [df (by simp), cond_false, wrap_ok (z := z + 1) (by omega), df (by simp), cond_false, wrap_ok (z := z + 1 + 1) (by omega), show z + 1 + 1 = z + 2 by omega, heldLeS_mk _ _ (by omega) (by omega) (by omega)]
    simp only [Option.bind_some]
    rw [df (by omega), cond_false, wrap_ok (z := (i : Int) + 1) (by omega)]; rfl
  · have ht : ls.take ls.length = ls := List.take_length
    try dsimp only
    rw [hml, df (by omega), cond_false, ht]; rfl
end Go.Pf

