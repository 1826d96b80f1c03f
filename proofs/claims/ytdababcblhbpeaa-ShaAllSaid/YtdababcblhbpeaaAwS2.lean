/-
  AwS2: arguments that are scripts, witnesses, contexts, keys. Own work.
-/
import Derived.Test.YtdababcblhbpeaaAwS
import Derived.Test.YtdababcblhbpeaaAwSc1
set_option linter.unusedVariables false
set_option linter.unusedSimpArgs false
set_option maxRecDepth 20000
open Go.Proofs
namespace Go.Aw

section
variable {W : World} {r : Reach} {b0 : Nat} {v : Value}
theorem scr_arg (h : Value.okWide Try.prog W r b0 45 v) : ∃ s : Scr, ∀ ρ n, VR ρ n s.av v := by
  obtain ⟨cs, rfl, hl, hc⟩ := agg_cells (by kernel_rfl) h (ts := [3, 3, 3, 3, 3, 3] ++ List.replicate 32 5) (by kernel_rfl) (by kernel_rfl)
  have u3 : Try.prog.underlying 3 = some (.int .i64) := by kernel_rfl
  obtain ⟨a0, h0, _⟩ := row_int hc 0 rfl u3
  obtain ⟨a1, h1, _⟩ := row_int hc 1 rfl u3
  obtain ⟨a2, h2, _⟩ := row_int hc 2 rfl u3
  obtain ⟨a3, h3, _⟩ := row_int hc 3 rfl u3
  obtain ⟨a4, h4, _⟩ := row_int hc 4 rfl u3
  obtain ⟨a5, h5, _⟩ := row_int hc 5 rfl u3
  obtain ⟨xs, g1, g2, _⟩ := row_ints hc 6 32 (u := 5) (k := .u8) (fun j hj => by rw [List.getElem?_append_right (by simp), List.getElem?_replicate]; first | (simp; done) | (simp; omega)) (by kernel_rfl)
  refine ⟨⟨a0, a1, a2, a3, a4, a5, xs⟩, fun ρ n => ?_⟩
  simp only [VR]
  refine ⟨cs, rfl, ?_, by rw [hl]; rfl⟩
  exact ⟨⟨_, h0, rfl, rfl⟩, ⟨_, h1, rfl, rfl⟩, ⟨_, h2, rfl, rfl⟩, ⟨_, h3, rfl, rfl⟩, ⟨_, h4, rfl, rfl⟩, ⟨_, h5, rfl, rfl⟩, ⟨g1, g2⟩, trivial⟩
theorem wit_arg (h : Value.okWide Try.prog W r b0 47 v) : ∃ s : Wit, ∀ ρ n, VR ρ n s.av v := by
  obtain ⟨cs, rfl, hl, hc⟩ := agg_cells (by kernel_rfl) h (ts := [3, 3, 9]) (by kernel_rfl) (by kernel_rfl)
  have u3 : Try.prog.underlying 3 = some (.int .i64) := by kernel_rfl
  obtain ⟨a0, h0, _⟩ := row_int hc 0 rfl u3
  obtain ⟨a1, h1, _⟩ := row_int hc 1 rfl u3
  obtain ⟨a2, h2, _⟩ := row_str hc 2 rfl (by kernel_rfl)
  refine ⟨⟨a0, a1, a2⟩, fun ρ n => ?_⟩
  simp only [VR]
  refine ⟨cs, rfl, ?_, by rw [hl]; rfl⟩
  exact ⟨⟨_, h0, rfl, rfl⟩, ⟨_, h1, rfl, rfl⟩, ⟨_, h2, rfl, rfl⟩, trivial⟩
theorem ctx_arg (h : Value.okWide Try.prog W r b0 49 v) : ∃ s : Ctx3, ∀ ρ n, VR ρ n s.av v := by
  obtain ⟨cs, rfl, hl, hc⟩ := agg_cells (by kernel_rfl) h (ts := [3, 3, 3]) (by kernel_rfl) (by kernel_rfl)
  have u3 : Try.prog.underlying 3 = some (.int .i64) := by kernel_rfl
  obtain ⟨a0, h0, _⟩ := row_int hc 0 rfl u3
  obtain ⟨a1, h1, _⟩ := row_int hc 1 rfl u3
  obtain ⟨a2, h2, _⟩ := row_int hc 2 rfl u3
  refine ⟨⟨a0, a1, a2⟩, fun ρ n => ?_⟩
  simp only [VR]
  refine ⟨cs, rfl, ?_, by rw [hl]; rfl⟩
  exact ⟨⟨_, h0, rfl, rfl⟩, ⟨_, h1, rfl, rfl⟩, ⟨_, h2, rfl, rfl⟩, trivial⟩
theorem keys_arg (h : Value.okWide Try.prog W r b0 54 v) : ∃ s : Keys3, ∀ ρ n, VR ρ n s.av v := by
  obtain ⟨cs, rfl, hl, hc⟩ := agg_cells (by kernel_rfl) h (ts := [3, 3, 3]) (by kernel_rfl) (by kernel_rfl)
  have u3 : Try.prog.underlying 3 = some (.int .i64) := by kernel_rfl
  obtain ⟨a0, h0, _⟩ := row_int hc 0 rfl u3
  obtain ⟨a1, h1, _⟩ := row_int hc 1 rfl u3
  obtain ⟨a2, h2, _⟩ := row_int hc 2 rfl u3
  refine ⟨⟨a0, a1, a2⟩, fun ρ n => ?_⟩
  simp only [VR]
  refine ⟨cs, rfl, ?_, by rw [hl]; rfl⟩
  exact ⟨⟨_, h0, rfl, rfl⟩, ⟨_, h1, rfl, rfl⟩, ⟨_, h2, rfl, rfl⟩, trivial⟩
end
end Go.Aw
