/-
  'ScriptAsks' says true, whatever it is given: the statement 'Rows.ScriptAsksSaid'. Conditions: none.
-/
import Derived.Test.YtdababcblhbpeaaLiftScriptAsks
namespace Go.Proofs.Ytdababcblhbpeaa.scriptAsks
open Go.ChangeShapes Go.WideShapes Go.ChangeAt Go.RowKit
set_option linter.unusedVariables false

theorem over : Rows.scriptAsksRow.holds Try.pinned (OpenSpec.ofChange Rows.scriptAsksSpec) :=
  OpenClaim.holds_of_wide 11 Try.f11 rfl rfl rfl rfl rfl rfl rfl ⟨rfl, rfl, rfl, rfl, rfl⟩ rfl rfl rfl rfl rfl (by kernel_rfl) Try.func11 (by kernel_rfl)
    (of_decide_eq_true (by kernel_rfl)) (by unfold Func.isWrapper; first | (rw [if_pos (by decide +kernel)]; kernel_rfl) | (rw [if_neg (by decide +kernel)]; exact ⟨rfl, rfl⟩))
    (fun os started H enc _ => lifted os started H enc)

/-- the statement -/
theorem proved : Rows.ScriptAsksSaid := over
#print axioms proved
end Go.Proofs.Ytdababcblhbpeaa.scriptAsks
