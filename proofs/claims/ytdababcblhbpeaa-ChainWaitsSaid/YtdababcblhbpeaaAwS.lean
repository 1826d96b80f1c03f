/-
  AwS: an argument that is a struct of numbers, texts and rows of numbers: its cells told. Own work.
-/
import Derived.Test.YtdababcblhbpeaaM8
set_option linter.unusedVariables false
set_option linter.unusedSimpArgs false
namespace Go.Aw
open Go.ChangeShapes Go.WideShapes Go.RowKit

section
variable {P : Program} {W : World} {r : Reach} {b0 : Nat}

def isRow (P : Program) (t : TypeId) : Bool := match P.underlying t with
  | some (.struct _) | some (.array _ _) => true
  | _ => false

theorem cell_int {u : TypeId} {v : Value} {k : IntKind} (hu : P.underlying u = some (.int k)) (h : Cell.okWide P W r b0 u v) : ∃ n, v = .int k n ∧ k.has n := by
  unfold Cell.okWide at h
  rw [hu] at h
  cases v <;> simp [Cell.ok, hu] at h
  obtain ⟨rfl, h⟩ := h
  exact ⟨_, rfl, h⟩
end
end Go.Aw
