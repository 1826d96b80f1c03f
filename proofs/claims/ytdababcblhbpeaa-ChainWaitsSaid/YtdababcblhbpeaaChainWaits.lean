/-
  'ChainWaits' says true, whatever it is given: the statement 'Rows.ChainWaitsSaid'. Conditions: none.
-/
import Derived.Test.YtdababcblhbpeaaLiftChainWaits
import Derived.Test.YtdababcblhbpeaaAwCl
namespace Go.Proofs.Ytdababcblhbpeaa.chainWaits
open Go.ChangeShapes Go.WideShapes Go.ChangeAt Go.RowKit
set_option linter.unusedVariables false

set_option maxRecDepth 100000 in
theorem closed : joinedFacts Try.pinned.checked.prog 18 Try.f18 Rows.chainWaitsSpec Rows.chainWaitsRow = true := by
  unfold joinedFacts
  rw [Go.Aw.may_enter, Go.Aw.lifts_none, Go.Aw.made_cut]
  kernel_rfl
theorem over : Rows.chainWaitsRow.holds Try.pinned (OpenSpec.ofChange Rows.chainWaitsSpec) :=
  OpenClaim.holds_of_wide 18 Try.f18 rfl rfl rfl rfl rfl rfl rfl ⟨rfl, rfl, rfl, rfl, rfl⟩ rfl rfl rfl rfl rfl (by kernel_rfl) Try.func18 closed
    (of_decide_eq_true (by kernel_rfl)) (by unfold Func.isWrapper; first | (rw [if_pos (by decide +kernel)]; kernel_rfl) | (rw [if_neg (by decide +kernel)]; exact ⟨rfl, rfl⟩))
    (fun os started H enc _ => lifted os started H enc)

/-- the statement -/
theorem proved : Rows.ChainWaitsSaid := over
#print axioms proved
end Go.Proofs.Ytdababcblhbpeaa.chainWaits
