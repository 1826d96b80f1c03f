/-
  AwCh25: a header is added to a chain on which none waits: the plain part. Own work.
-/
import Derived.Test.YtdababcblhbpeaaAwCh23
set_option linter.unusedVariables false
set_option linter.unusedSimpArgs false
set_option maxRecDepth 20000
open Go.Proofs
namespace Go.Aw

theorem deep_false {c : Ch} {n : Int} (h : (c.way.length : Int) - 1 - c.k ≤ n) : deepB c n = false := by
  unfold deepB; exact decide_eq_false (by omega)
theorem takes_known {c : Ch} {id : List Int} {h : Hdr} (hn : findK id c.known = none) : (takesC c id h).known = c.known ++ [(c.clock, id, newK c h)] := by
  show insK id (newK c h) c.clock c.known = _
  exact insK_new hn
theorem takes_find {c : Ch} {id : List Int} {h : Hdr} (hn : findK id c.known = none) (i : List Int) : findK i (takesC c id h).known = if i = id then some (newK c h) else findK i c.known := by
  rw [takes_known hn, findK_app]
  by_cases q : i = id
  · rw [if_pos q, q, hn]; simp [findK]
  · rw [if_neg q]
    cases findK i c.known with
    | some x => rfl
    | none => simp [findK, q]
/-- what an added header leaves behind: nothing waits, and the tip is the best -/
structure Calm (c : Ch) : Prop where
  go : c.halted = false
  orp : c.orphans = []
  max : ∀ e ∈ c.known, betterK e.2.2 c.tipK = false
end Go.Aw
