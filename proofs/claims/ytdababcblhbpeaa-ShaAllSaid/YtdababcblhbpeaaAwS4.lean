/-
  AwS4: arguments that are numbers, with their bounds. Own work.
-/
import Derived.Test.YtdababcblhbpeaaAwS3
set_option linter.unusedVariables false
set_option linter.unusedSimpArgs false
set_option maxRecDepth 20000
open Go.Proofs
namespace Go.Aw
section
variable {W : World} {r : Reach} {b0 : Nat} {v : Value}
theorem byte_arg (h : Value.okWide Try.prog W r b0 5 v) : ∃ s : Int, (0 ≤ s ∧ s ≤ 255) ∧ ∀ ρ n, VR ρ n (.int .u8 s) v := by
  obtain ⟨n, rfl, hn⟩ := cell_int (by kernel_rfl) (one_cell (by kernel_rfl) h) (k := .u8)
  refine ⟨n, ?_, fun ρ m => by simp only [VR]⟩
  simp [IntKind.has, IntKind.min, IntKind.max, IntKind.signed, IntKind.bits] at hn
  omega
theorem int_arg64 (h : Value.okWide Try.prog W r b0 3 v) : ∃ s : Int, (-9223372036854775808 ≤ s ∧ s ≤ 9223372036854775807) ∧ ∀ ρ n, VR ρ n (.int .i64 s) v := by
  obtain ⟨n, rfl, hn⟩ := cell_int (by kernel_rfl) (one_cell (by kernel_rfl) h) (k := .i64)
  refine ⟨n, ?_, fun ρ m => by simp only [VR]⟩
  simp [IntKind.has, IntKind.min, IntKind.max, IntKind.signed, IntKind.bits] at hn
  omega
end
end Go.Aw
