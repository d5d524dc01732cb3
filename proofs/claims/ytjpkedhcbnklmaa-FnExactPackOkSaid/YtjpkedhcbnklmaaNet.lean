/-
  Own work. Networks of look-up tables: the laws' helpers (sizes, copies, comparisons, marks).
-/
import Derived.Test.YtjpkedhcbnklmaaUse
namespace Go.Pf
open Go Go.Pu
set_option linter.unusedVariables false

abbrev Seq := Int × (Int × List Int)
abbrev Lut := List Int × Int
abbrev Net := Int × (List Seq × (List Lut × List Int))
def SeqB (b : Int) (s : Seq) : Prop := (s.2.2.length : Int) ≤ b
def LutB (b : Int) (l : Lut) : Prop := (l.1.length : Int) ≤ b
def SeqsB (ss : List Seq) : Prop := ss.length ≤ 1048576 ∧ ∀ s ∈ ss, SeqB (1048576 - ss.length) s
def LutsB (ls : List Lut) : Prop := ls.length ≤ 1048576 ∧ ∀ l ∈ ls, LutB (1048576 - ls.length) l
def NetB (n : Net) : Prop := SeqsB n.2.1 ∧ LutsB n.2.2.1 ∧ n.2.2.2.length ≤ 1048576
theorem SeqsB.at {ss : List Seq} (h : SeqsB ss) {s : Seq} (hs : s ∈ ss) : s.2.2.length ≤ 1048576 := by
  have := h.2 s hs
  unfold SeqB at this; omega
theorem LutsB.at {ls : List Lut} (h : LutsB ls) {l : Lut} (hl : l ∈ ls) : l.1.length ≤ 1048576 := by
  have := h.2 l hl
  unfold LutB at this; omega
theorem szSeq_ok (s : Seq) (hl : s.2.2.length ≤ 9223372036854775807) : ∀ b : Int, 0 ≤ b → b ≤ 1048576 → laws_szSeq (s, b) = some (-1) ∨ (SeqB b s ∧ ∃ z, 0 ≤ z ∧ z ≤ b ∧ laws_szSeq (s, b) = some z) := by
  intro b b0 b1
  unfold laws_szSeq
  rcases szIntS_ok s.2.2 b b0 b1 hl with ⟨_, e⟩ | ⟨p, e⟩
  · left; rw [e]; rfl
  · right
    refine ⟨p, b - s.2.2.length, by omega, by omega, ?_⟩
    rw [e]
    simp only [Option.bind_some]
    rw [df (by omega), cond_false]
theorem szLut_ok (s : Lut) (hl : s.1.length ≤ 9223372036854775807) : ∀ b : Int, 0 ≤ b → b ≤ 1048576 → laws_szLut (s, b) = some (-1) ∨ (LutB b s ∧ ∃ z, 0 ≤ z ∧ z ≤ b ∧ laws_szLut (s, b) = some z) := by
  intro b b0 b1
  unfold laws_szLut
  rcases szIntS_ok s.1 b b0 b1 hl with ⟨_, e⟩ | ⟨p, e⟩
  · left; rw [e]; rfl
  · right
    refine ⟨p, b - s.1.length, by omega, by omega, ?_⟩
    rw [e]
    simp only [Option.bind_some]
    rw [df (by omega), cond_false]
theorem szNet_ok (n : Net) (h1 : n.2.1.length ≤ 9223372036854775807) (h2 : ∀ s ∈ n.2.1, List.length s.2.2 ≤ 9223372036854775807) (h3 : n.2.2.1.length ≤ 9223372036854775807) (h4 : ∀ l ∈ n.2.2.1, List.length l.1 ≤ 9223372036854775807) (h5 : n.2.2.2.length ≤ 9223372036854775807) : ∀ b : Int, 0 ≤ b → b ≤ 1048576 → laws_szLutNet (n, b) = some (-1) ∨ (NetB n ∧ ∃ z, 0 ≤ z ∧ z ≤ b ∧ laws_szLutNet (n, b) = some z) := by
  intro b b0 b1
  unfold laws_szLutNet
  try dsimp only
  rcases szlistB (0, (0, [])) laws_szSeq SeqB (fun b c x h1 h2 => by unfold SeqB at *; omega) n.2.1 h1 (fun s hs => szSeq_ok s (h2 s hs)) b b0 b1 with e | ⟨hb, z, z0, z1, e⟩
  · have e' : laws_szSeqS (n.2.1, b) = some (-1) := e
    left; rw [e']; rfl
  have e' : laws_szSeqS (n.2.1, b) = some z := e
  rw [e']
  simp only [Option.bind_some]
  rw [df (by omega), cond_false]
  rcases szlistB ([], 0) laws_szLut LutB (fun b c x h1 h2 => by unfold LutB at *; omega) n.2.2.1 h3 (fun s hs => szLut_ok s (h4 s hs)) z z0 (by omega) with e2 | ⟨hb2, w, w0, w1, e2⟩
  · have e2' : laws_szLutS (n.2.2.1, z) = some (-1) := e2
    left; rw [e2']; rfl
  have e2' : laws_szLutS (n.2.2.1, z) = some w := e2
  rw [e2']
  simp only [Option.bind_some]
  rw [df (by omega), cond_false]
  rcases szIntS_ok n.2.2.2 w w0 (by omega) h5 with ⟨_, e3⟩ | ⟨p, e3⟩
  · left; rw [e3]; rfl
  · right
    refine ⟨⟨⟨hb.1, fun s hs => ?_⟩, ⟨hb2.1, fun s hs => ?_⟩, by omega⟩, w - n.2.2.2.length, by omega, by omega, ?_⟩
    · have := hb.2 s hs; unfold SeqB at *; omega
    · have := hb2.2 s hs; unfold LutB at *; omega
    · rw [e3]
      simp only [Option.bind_some]
      rw [df (by omega), cond_false]
theorem toNet_ok (n : Net) (h : NetB n) : laws_toLutNet n = some n := by
  unfold laws_toLutNet
  have e1 : laws_toSeqS n.2.1 = some n.2.1 := toL_ok 40 (0, (0, [])) laws_toSeq n.2.1 h.1.1 (by omega) (fun s hs => by
    unfold laws_toSeq
    rw [toIntS_ok s.2.2 (h.1.at hs)]; rfl)
  have e2 : laws_toLutS n.2.2.1 = some n.2.2.1 := toL_ok 32 ([], 0) laws_toLut n.2.2.1 h.2.1.1 (by omega) (fun s hs => by
    unfold laws_toLut
    rw [toIntS_ok s.1 (h.2.1.at hs)]; rfl)
  rw [e1]
  simp only [Option.bind_some]
  rw [e2]
  simp only [Option.bind_some]
  rw [toIntS_ok n.2.2.2 h.2.2]; rfl
theorem eqNet_refl (n : Net) (h : NetB n) : laws_eqLutNet (n, n) = some true := by
  unfold laws_eqLutNet
  have e1 : laws_eqSeqS (n.2.1, n.2.1) = some true := eqL_refl (0, (0, [])) laws_eqSeq n.2.1 (by have := h.1.1; omega) (fun s hs => by
    have hl := h.1.at hs
    unfold laws_eqSeq
    simp only [ne_eq, not_true_eq_false, decide_false, cond_false, eqIntS_ok s.2.2 s.2.2 (by omega), decide_true, Option.bind_some, Bool.not_true])
  have e2 : laws_eqLutS (n.2.2.1, n.2.2.1) = some true := eqL_refl ([], 0) laws_eqLut n.2.2.1 (by have := h.2.1.1; omega) (fun s hs => by
    have hl := h.2.1.at hs
    unfold laws_eqLut
    simp only [ne_eq, not_true_eq_false, decide_false, cond_false, eqIntS_ok s.1 s.1 (by omega), decide_true, Option.bind_some, Bool.not_true])
  have h3 := h.2.2
  simp only [ne_eq, not_true_eq_false, decide_false, cond_false, e1, e2, eqIntS_ok n.2.2.2 n.2.2.2 (by omega), decide_true, Option.bind_some, Bool.not_true]
end Go.Pf

