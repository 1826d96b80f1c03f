/-
  AwS: an argument that is a struct of numbers, texts and rows of numbers: its cells told. Own work.
-/
import Derived.Test.YtdababcblhbpeaaM8
set_option linter.unusedVariables false
set_option linter.unusedSimpArgs false
namespace Go.Aw
open Go.ChangeShapes Go.WideShapes Go.RowKit

section
variable {P : Program} {W : World} {r : Reach} {b0 : Nat}

def isRow (P : Program) (t : TypeId) : Bool := match P.underlying t with
  | some (.struct _) | some (.array _ _) => true
  | _ => false

theorem agg_cells {t : TypeId} {v : Value} (ht : isRow P t = true) (hval : Value.okWide P W r b0 t v) {ts : List TypeId} (hts : P.cellTypes P.depth t = some ts) (hn : P.cellsOf t = ts.length) :
    ∃ cs : List Value, v = .agg cs.toArray ∧ cs.length = ts.length ∧ ∀ i, i < ts.length → ∃ u x, ts[i]? = some u ∧ cs[i]? = some x ∧ Cell.okWide P W r b0 u x := by
  have h : ∃ cs, v = .agg cs ∧ cs.size = P.cellsOf t ∧ Row.okWide P W r b0 t cs := by
    unfold Value.okWide at hval
    unfold isRow at ht
    cases hu : P.underlying t with
    | none => rw [hu] at ht; simp at ht
    | some y =>
      rw [hu] at ht hval
      cases y <;> first | exact hval | (simp at ht)
  obtain ⟨cs, rfl, hs, ts', h1, _, h2⟩ := h
  rw [hts] at h1
  cases h1
  refine ⟨cs.toList, rfl, by simp [hs, hn], fun i hi => ?_⟩
  have hi' : i < cs.size := by omega
  obtain ⟨u, h3, h4⟩ := h2 i cs[i] (Array.getElem?_eq_getElem hi')
  rw [Nat.mod_eq_of_lt hi] at h3
  exact ⟨u, cs[i], h3, by simp [hi'], h4⟩
theorem cell_int {u : TypeId} {v : Value} {k : IntKind} (hu : P.underlying u = some (.int k)) (h : Cell.okWide P W r b0 u v) : ∃ n, v = .int k n ∧ k.has n := by
  unfold Cell.okWide at h
  rw [hu] at h
  cases v <;> simp [Cell.ok, hu] at h
  obtain ⟨rfl, h⟩ := h
  exact ⟨_, rfl, h⟩
theorem cell_bool {u : TypeId} {v : Value} (hu : P.underlying u = some .bool) (h : Cell.okWide P W r b0 u v) : ∃ b, v = .bool b := by
  unfold Cell.okWide at h
  rw [hu] at h
  cases v <;> simp [Cell.ok, hu] at h
  exact ⟨_, rfl⟩
theorem cell_str {u : TypeId} {v : Value} (hu : P.underlying u = some .string) (h : Cell.okWide P W r b0 u v) : ∃ l : List UInt8, v = .string ⟨l.toArray⟩ ∧ (l.length : Int) ≤ IntKind.i64.max := by
  unfold Cell.okWide at h
  rw [hu] at h
  cases v
  case string s =>
    simp only [Cell.ok, hu] at h
    exact ⟨s.data.toList, rfl, by rw [Array.length_toList]; exact h⟩
  all_goals (exfalso; simp [Cell.ok, hu] at h)

/-- the cells of a struct: each number, each text -/
theorem row_int {cs : List Value} {ts : List TypeId} (h : ∀ i, i < ts.length → ∃ u x, ts[i]? = some u ∧ cs[i]? = some x ∧ Cell.okWide P W r b0 u x) (i : Nat) {u : TypeId} (hi : ts[i]? = some u) {k : IntKind} (hu : P.underlying u = some (.int k)) :
    ∃ n, cs[i]? = some (.int k n) ∧ k.has n := by
  have hl : i < ts.length := by
    rcases Nat.lt_or_ge i ts.length with g | g
    · exact g
    · rw [List.getElem?_eq_none g] at hi; cases hi
  obtain ⟨u', x, h1, h2, h3⟩ := h i hl
  rw [hi] at h1
  cases h1
  obtain ⟨n, rfl, hn⟩ := cell_int hu h3
  exact ⟨n, h2, hn⟩
theorem row_str {cs : List Value} {ts : List TypeId} (h : ∀ i, i < ts.length → ∃ u x, ts[i]? = some u ∧ cs[i]? = some x ∧ Cell.okWide P W r b0 u x) (i : Nat) {u : TypeId} (hi : ts[i]? = some u) (hu : P.underlying u = some .string) :
    ∃ l : List UInt8, cs[i]? = some (.string ⟨l.toArray⟩) ∧ (l.length : Int) ≤ IntKind.i64.max := by
  have hl : i < ts.length := by
    rcases Nat.lt_or_ge i ts.length with g | g
    · exact g
    · rw [List.getElem?_eq_none g] at hi; cases hi
  obtain ⟨u', x, h1, h2, h3⟩ := h i hl
  rw [hi] at h1
  cases h1
  obtain ⟨n, rfl, hn⟩ := cell_str hu h3
  exact ⟨n, h2, hn⟩
theorem row_ints {cs : List Value} {ts : List TypeId} (h : ∀ i, i < ts.length → ∃ u x, ts[i]? = some u ∧ cs[i]? = some x ∧ Cell.okWide P W r b0 u x) (off m : Nat) {u : TypeId} (hi : ∀ j, j < m → ts[off + j]? = some u) {k : IntKind} (hu : P.underlying u = some (.int k)) :
    ∃ xs : List Int, xs.length = m ∧ (∀ j, j < m → cs[off + j]? = some (.int k (xs.getD j 0))) ∧ ∀ x ∈ xs, k.has x := by
  induction m with
  | zero => exact ⟨[], rfl, fun j hj => absurd hj (Nat.not_lt_zero _), fun x hx => by cases hx⟩
  | succ m ih =>
    obtain ⟨xs, h1, h2, h3⟩ := ih (fun j hj => hi j (by omega))
    obtain ⟨n, h4, h5⟩ := row_int h (off + m) (hi m (by omega)) hu
    refine ⟨xs ++ [n], by simp [h1], fun j hj => ?_, fun x hx => ?_⟩
    · by_cases hm : j < m
      · rw [h2 j hm, List.getD_eq_getElem?_getD, List.getD_eq_getElem?_getD, List.getElem?_append_left (by omega)]
      · obtain rfl : j = m := by omega
        rw [h4, List.getD_eq_getElem?_getD, List.getElem?_append_right (by omega), h1]
        simp
    · rcases List.mem_append.1 hx with g | g
      · exact h3 x g
      · simp at g; rw [g]; exact h5
end
end Go.Aw
