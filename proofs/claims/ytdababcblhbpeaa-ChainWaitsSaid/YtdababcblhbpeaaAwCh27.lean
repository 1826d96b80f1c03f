/-
  AwCh27: headers that stand on one another, and one aside: the plain part. Own work.
-/
import Derived.Test.YtdababcblhbpeaaAwCh25
import Derived.Test.YtdababcblhbpeaaAwCh26
set_option linter.unusedVariables false
set_option linter.unusedSimpArgs false
set_option maxRecDepth 20000
open Go.Proofs
namespace Go.Aw

/-- the chain's headers so far -/
def lineW (I : List (List Nat)) (i : Nat) : List (List Int) := (List.range (i + 1)).map (idI I)
theorem lineW_len (I : List (List Nat)) (i : Nat) : (lineW I i).length = i + 1 := by simp [lineW]
theorem lineW_get (I : List (List Nat)) {i j : Nat} (h : j ≤ i) : (lineW I i)[j]? = some (idI I j) := by
  simp [lineW, show j < i + 1 by omega]
structure Line (c : Ch) (I : List (List Nat)) (i : Nat) (k w : Int) (S : List Int → KH → Prop) : Prop where
  way : c.way = lineW I i
  k : c.k = k
  calm : Calm c
  known : ∀ j, j ≤ i → ∃ x, findK (idI I j) c.known = some x ∧ x.work = 1 + w * j
  only : ∀ id x, findK id c.known = some x → (∃ j, j ≤ i ∧ id = idI I j) ∨ S id x
theorem Line.tip {c : Ch} {I : List (List Nat)} {i : Nat} {k w : Int} {S} (h : Line c I i k w S) : c.tip = idI I i := by
  unfold Ch.tip
  rw [h.way, lineW_len, show i + 1 - 1 = i by omega]
  simp only [List.getD_eq_getElem?_getD, lineW_get I (Nat.le_refl i), Option.getD_some]
theorem may_of {h : Hdr} (q : h.may) : mayB h = true := mayB_true.2 q
/-! ### moulds of headers that stand on one another -/
def mline (w : Int) (n : Nat) : List Md := (List.range n).map fun (j : Nat) => (⟨(j : Int), w⟩ : Md)
@[simp] theorem mline_len (w : Int) (n : Nat) : (mline w n).length = n := by simp [mline]
theorem rowMd_snoc (l : List Md) (n : Nat) (m : Md) (hn : n = l.length) : (List.drop 0 (rowMd l)).take n ++ List.take 1 (List.drop 0 [(AV.agg [AV.int .i64 m.up, AV.int .i64 m.work]).segs]) = rowMd (l ++ [m]) := by
  subst hn
  rw [List.drop_zero, List.take_of_length_le (by simp)]; simp [rowMd, AV.segs]
end Go.Aw
