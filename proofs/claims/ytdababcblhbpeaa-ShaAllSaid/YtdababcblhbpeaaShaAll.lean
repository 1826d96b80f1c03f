/-
  'ShaAll' says true, whatever it is given: the statement 'Rows.ShaAllSaid'. Conditions: none.
-/
import Derived.Test.YtdababcblhbpeaaLiftShaAll
import Derived.Test.YtdababcblhbpeaaAwCl
namespace Go.Proofs.Ytdababcblhbpeaa.shaAll
open Go.ChangeShapes Go.WideShapes Go.ChangeAt Go.RowKit
set_option linter.unusedVariables false

set_option maxRecDepth 100000 in
theorem closed : joinedFacts Try.pinned.checked.prog 7 Try.f7 Rows.shaAllSpec Rows.shaAllRow = true := by
  unfold joinedFacts
  rw [Go.Aw.may_enter, Go.Aw.lifts_none, Go.Aw.made_cut]
  kernel_rfl
theorem over : Rows.shaAllRow.holds Try.pinned (OpenSpec.ofChange Rows.shaAllSpec) :=
  OpenClaim.holds_of_wide 7 Try.f7 rfl rfl rfl rfl rfl rfl rfl ⟨rfl, rfl, rfl, rfl, rfl⟩ rfl rfl rfl rfl rfl (by kernel_rfl) Try.func7 closed
    (of_decide_eq_true (by kernel_rfl)) (by unfold Func.isWrapper; first | (rw [if_pos (by decide +kernel)]; kernel_rfl) | (rw [if_neg (by decide +kernel)]; exact ⟨rfl, rfl⟩))
    (fun os started H enc _ => lifted os started H enc)

/-- the statement -/
theorem proved : Rows.ShaAllSaid := over
#print axioms proved
end Go.Proofs.Ytdababcblhbpeaa.shaAll
