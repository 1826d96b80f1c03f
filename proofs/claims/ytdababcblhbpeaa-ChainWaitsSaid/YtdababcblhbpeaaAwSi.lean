/-
  AwSi: arguments that are numbers. Own work.
-/
import Derived.Test.YtdababcblhbpeaaAwS
import Derived.Test.YtdababcblhbpeaaM9
set_option linter.unusedVariables false
set_option linter.unusedSimpArgs false
set_option maxRecDepth 20000
open Go.Proofs
namespace Go.Aw

section
variable {W : World} {r : Reach} {b0 : Nat} {v : Value}
theorem one_cell {P : Program} {t : TypeId} (ht : isRow P t = false) (h : Value.okWide P W r b0 t v) : Cell.okWide P W r b0 t v := by
  unfold Value.okWide at h
  unfold isRow at ht
  cases hu : P.underlying t with
  | none => rw [hu] at h; exact h
  | some y =>
    rw [hu] at ht h
    cases y <;> first | exact h | (simp at ht)
theorem int_arg (h : Value.okWide Try.prog W r b0 3 v) : ∃ s : Int, (-9223372036854775808 ≤ s ∧ s ≤ 9223372036854775807) ∧ ∀ ρ n, VR ρ n (.int .i64 s) v := by
  obtain ⟨n, rfl, hn⟩ := cell_int (by kernel_rfl) (one_cell (by kernel_rfl) h) (k := .i64)
  refine ⟨n, ?_, fun ρ m => by simp only [VR]⟩
  simp [IntKind.has, IntKind.min, IntKind.max, IntKind.signed, IntKind.bits] at hn
  omega
end
end Go.Aw
