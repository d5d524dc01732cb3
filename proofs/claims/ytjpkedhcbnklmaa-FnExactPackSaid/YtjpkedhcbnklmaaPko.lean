/-
  Own work. Packings, plainly: every item once.
-/
import Derived.Test.YtjpkedhcbnklmaaBlk
namespace Go.Pf
open Go Go.Pu
set_option linter.unusedVariables false

def BkB (b : Int) (x : Blk) : Prop := (x.2.2.length : Int) ≤ b
def BksB (bs : List Blk) : Prop := bs.length ≤ 1048576 ∧ ∀ b ∈ bs, BkB (1048576 - bs.length) b
theorem BksB.at {bs : List Blk} (h : BksB bs) {b : Blk} (hb : b ∈ bs) : b.2.2.length ≤ 1048576 := by
  have := h.2 b hb
  unfold BkB at this
  omega
theorem eqBks_refl (bs : List Blk) (h : BksB bs) : laws_eqBlockS (bs, bs) = some true := eqL_refl (0, (0, [])) laws_eqBlock bs (by have := h.1; omega) (fun b hb => eqBlk_refl b (h.at hb))

theorem join_in {α β : Type} (a : α) (k : α → Option β) : joinO (some (.inl a)) k = k a := rfl
end Go.Pf

