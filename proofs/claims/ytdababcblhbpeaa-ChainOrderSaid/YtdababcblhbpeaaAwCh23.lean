/-
  AwCh23: events lead from tip to tip: the plain part. Own work.
-/
import Derived.Test.YtdababcblhbpeaaAwCh21
set_option linter.unusedVariables false
set_option linter.unusedSimpArgs false
set_option maxRecDepth 20000
open Go.Proofs
namespace Go.Aw

/-- events that lead from a way to another -/
structure Plays (w w2 : List (List Int)) (E : List Ev) (k : Int) (f : Nat) (u : List (List Int)) : Prop where
  ev : E = evDown w f (w.length - 1 - f) ++ evUp u (f + 1)
  lt : f < w.length
  to : w2 = w.take (f + 1) ++ u
  few : ((w.length - 1 - f : Nat) : Int) ≤ k
  up : f < w.length - 1 → u ≠ []
  len : ∀ x ∈ u, x.length = 32
end Go.Aw
