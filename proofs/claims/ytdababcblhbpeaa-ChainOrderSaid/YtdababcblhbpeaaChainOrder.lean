/-
  'ChainOrder' says true, whatever it is given: the statement 'Rows.ChainOrderSaid'. Conditions: none.
-/
import Derived.Test.YtdababcblhbpeaaLiftChainOrder
import Derived.Test.YtdababcblhbpeaaAwCl
namespace Go.Proofs.Ytdababcblhbpeaa.chainOrder
open Go.ChangeShapes Go.WideShapes Go.ChangeAt Go.RowKit
set_option linter.unusedVariables false

set_option maxRecDepth 100000 in
theorem closed : joinedFacts Try.pinned.checked.prog 19 Try.f19 Rows.chainOrderSpec Rows.chainOrderRow = true := by
  unfold joinedFacts
  rw [Go.Aw.may_enter, Go.Aw.lifts_none, Go.Aw.made_cut]
  kernel_rfl
theorem over : Rows.chainOrderRow.holds Try.pinned (OpenSpec.ofChange Rows.chainOrderSpec) :=
  OpenClaim.holds_of_wide 19 Try.f19 rfl rfl rfl rfl rfl rfl rfl ⟨rfl, rfl, rfl, rfl, rfl⟩ rfl rfl rfl rfl rfl (by kernel_rfl) Try.func19 closed
    (of_decide_eq_true (by kernel_rfl)) (by unfold Func.isWrapper; first | (rw [if_pos (by decide +kernel)]; kernel_rfl) | (rw [if_neg (by decide +kernel)]; exact ⟨rfl, rfl⟩))
    (fun os started H enc _ => lifted os started H enc)

/-- the statement -/
theorem proved : Rows.ChainOrderSaid := over
#print axioms proved
end Go.Proofs.Ytdababcblhbpeaa.chainOrder
