/-
  AwS3: arguments that are numbers, truths, texts, claims. Own work.
-/
import Derived.Test.YtdababcblhbpeaaAwS2
import Derived.Test.YtdababcblhbpeaaAwWt1
set_option linter.unusedVariables false
set_option linter.unusedSimpArgs false
set_option maxRecDepth 20000
open Go.Proofs
namespace Go.Aw

section
variable {W : World} {r : Reach} {b0 : Nat} {v : Value}
theorem one_cell {P : Program} {t : TypeId} (ht : isRow P t = false) (h : Value.okWide P W r b0 t v) : Cell.okWide P W r b0 t v := by
  unfold Value.okWide at h
  unfold isRow at ht
  cases hu : P.underlying t with
  | none => rw [hu] at h; exact h
  | some y =>
    rw [hu] at ht h
    cases y <;> first | exact h | (simp at ht)
theorem int_arg (h : Value.okWide Try.prog W r b0 3 v) : ∃ s : Int, ∀ ρ n, VR ρ n (.int .i64 s) v := by
  obtain ⟨n, rfl, _⟩ := cell_int (by kernel_rfl) (one_cell (by kernel_rfl) h) (k := .i64)
  exact ⟨n, fun ρ m => by simp only [VR]⟩
theorem bool_arg (h : Value.okWide Try.prog W r b0 4 v) : ∃ s : Bool, ∀ ρ n, VR ρ n (.bool s) v := by
  obtain ⟨n, rfl⟩ := cell_bool (by kernel_rfl) (one_cell (by kernel_rfl) h)
  exact ⟨n, fun ρ m => by simp only [VR]⟩
theorem str_arg (h : Value.okWide Try.prog W r b0 9 v) : ∃ s : List UInt8, ∀ ρ n, VR ρ n (.str s) v := by
  obtain ⟨n, rfl, _⟩ := cell_str (by kernel_rfl) (one_cell (by kernel_rfl) h)
  exact ⟨n, fun ρ m => by simp only [VR]⟩
theorem crow_arg (h : Value.okWide Try.prog W r b0 68 v) : ∃ s : Clm, ∀ ρ n, VR ρ n s.av v := by
  obtain ⟨cs, rfl, hl, hc⟩ := agg_cells (by kernel_rfl) h (ts := [3, 3, 9, 3, 3, 3]) (by kernel_rfl) (by kernel_rfl)
  have u3 : Try.prog.underlying 3 = some (.int .i64) := by kernel_rfl
  obtain ⟨a0, h0, _⟩ := row_int hc 0 rfl u3
  obtain ⟨a1, h1, _⟩ := row_int hc 1 rfl u3
  obtain ⟨a2, h2, _⟩ := row_str hc 2 rfl (by kernel_rfl)
  obtain ⟨a3, h3, _⟩ := row_int hc 3 rfl u3
  obtain ⟨a4, h4, _⟩ := row_int hc 4 rfl u3
  obtain ⟨a5, h5, _⟩ := row_int hc 5 rfl u3
  refine ⟨⟨⟨a0, a1, a2⟩, a3, a4, a5⟩, fun ρ n => ?_⟩
  simp only [VR]
  refine ⟨cs, rfl, ?_, by rw [hl]; rfl⟩
  exact ⟨⟨_, h0, rfl, rfl⟩, ⟨_, h1, rfl, rfl⟩, ⟨_, h2, rfl, rfl⟩, ⟨_, h3, rfl, rfl⟩, ⟨_, h4, rfl, rfl⟩, ⟨_, h5, rfl, rfl⟩, trivial⟩
end
end Go.Aw
