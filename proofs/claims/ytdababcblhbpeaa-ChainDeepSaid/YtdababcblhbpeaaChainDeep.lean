/-
  'ChainDeep' says true, whatever it is given: the statement 'Rows.ChainDeepSaid'. Conditions: none.
-/
import Derived.Test.YtdababcblhbpeaaLiftChainDeep
import Derived.Test.YtdababcblhbpeaaAwCl
namespace Go.Proofs.Ytdababcblhbpeaa.chainDeep
open Go.ChangeShapes Go.WideShapes Go.ChangeAt Go.RowKit
set_option linter.unusedVariables false

set_option maxRecDepth 100000 in
theorem closed : joinedFacts Try.pinned.checked.prog 16 Try.f16 Rows.chainDeepSpec Rows.chainDeepRow = true := by
  unfold joinedFacts
  rw [Go.Aw.may_enter, Go.Aw.lifts_none, Go.Aw.made_cut]
  kernel_rfl
theorem over : Rows.chainDeepRow.holds Try.pinned (OpenSpec.ofChange Rows.chainDeepSpec) :=
  OpenClaim.holds_of_wide 16 Try.f16 rfl rfl rfl rfl rfl rfl rfl ⟨rfl, rfl, rfl, rfl, rfl⟩ rfl rfl rfl rfl rfl (by kernel_rfl) Try.func16 closed
    (of_decide_eq_true (by kernel_rfl)) (by unfold Func.isWrapper; first | (rw [if_pos (by decide +kernel)]; kernel_rfl) | (rw [if_neg (by decide +kernel)]; exact ⟨rfl, rfl⟩))
    (fun os started H enc _ => lifted os started H enc)

/-- the statement -/
theorem proved : Rows.ChainDeepSaid := over
#print axioms proved
end Go.Proofs.Ytdababcblhbpeaa.chainDeep
