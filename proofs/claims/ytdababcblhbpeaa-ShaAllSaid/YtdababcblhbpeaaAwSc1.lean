/-
  AwSc1: scripts and witnesses: the small functions. Own work.
-/
import Derived.Test.YtdababcblhbpeaaAwTab
import Derived.Test.YtdababcblhbpeaaAwO
import Derived.Test.YtdababcblhbpeaaAwQ
set_option linter.unusedVariables false
set_option linter.unusedSimpArgs false
set_option maxRecDepth 20000
open Go.Proofs
namespace Go.Aw

theorem mixed_okS : Try.prog.follows .mixedOrders = true := by kernel_rfl

theorem within_ok (n lo hi : Int) : AC Try.prog 84 [.int .i64 n, .int .i64 lo, .int .i64 hi] [] (fun r hp' => r = .bool (decide (lo ≤ n ∧ n ≤ hi)) ∧ hp' = []) := by
  refine AC.left (AC.body tokT Try.func84 rfl rfl rfl (by decide) (by rfl) ?_)
  refine ev_sound tokT (keep := fun _ => true) ?_
  (conv => whnf); (cases h1 : (decide (n ≥ lo) : Bool) <;> (try simp only [beq_iff_eq, beq_eq_false_iff_ne, ne_eq, decide_eq_true_eq, decide_eq_false_iff_not, bne_iff_ne, bne_eq_false_iff_eq, Bool.not_eq_true, Bool.not_eq_false, gt_iff_lt, ge_iff_le] at h1) <;> (try (exfalso; omega)))
  · (conv => whnf)
    (refine Left.of [] (.bool false) [] (by rfl) (by rfl) (by rfl) (by (repeat' (exact True.intro))) (by rfl) (by (repeat' (exact True.intro))) ?_)
    exact ⟨congrArg AV.bool (decide_eq_false (by omega)).symm, rfl⟩
  · (conv => whnf); (refine Left.of [] (.bool (decide (n ≤ hi))) [] (by rfl) (by rfl) (by rfl) (by (repeat' (exact True.intro))) (by rfl) (by (repeat' (exact True.intro))) ?_)
    exact ⟨congrArg AV.bool (by rw [Bool.eq_iff_iff, decide_eq_true_eq, decide_eq_true_eq]; omega), rfl⟩

/-- a script -/
structure Scr where
  kind : Int
  key : Int
  other : Int
  rev : Int
  delay : Int
  expiry : Int
  hash : List Int
abbrev Scr.segs (s : Scr) : List AV := [.int .i64 s.kind, .int .i64 s.key, .int .i64 s.other, .int .i64 s.rev, .int .i64 s.delay, .int .i64 s.expiry, .ints .u8 32 s.hash]
abbrev Scr.av (s : Scr) : AV := .agg s.segs
/-- a witness -/
structure Wit where
  kind : Int
  key : Int
  pre : List UInt8
abbrev Wit.segs (w : Wit) : List AV := [.int .i64 w.kind, .int .i64 w.key, .str w.pre]
abbrev Wit.av (w : Wit) : AV := .agg w.segs
structure Ctx3 where
  seq : Int
  depth : Int
  lock : Int
abbrev Ctx3.av (c : Ctx3) : AV := .agg [.int .i64 c.seq, .int .i64 c.depth, .int .i64 c.lock]
structure Keys3 where
  wallet : Int
  own : Int
  rev : Int
abbrev Keys3.av (k : Keys3) : AV := .agg [.int .i64 k.wallet, .int .i64 k.own, .int .i64 k.rev]

def Scr.ok (s : Scr) : Prop := 0 ≤ s.key ∧ s.key ≤ 1073741824 ∧ 0 ≤ s.other ∧ s.other ≤ 1073741824 ∧ 0 ≤ s.rev ∧ s.rev ≤ 1073741824 ∧
  1 ≤ s.kind ∧ s.kind ≤ 6 ∧ 0 ≤ s.delay ∧ s.delay ≤ 65535 ∧ 0 ≤ s.expiry ∧ s.expiry ≤ 1000000
instance (s : Scr) : Decidable s.ok := by unfold Scr.ok; infer_instance

theorem valid_ok (s : Scr) : AC Try.prog 36 [s.av] [] (fun r hp' => r = .bool (decide s.ok) ∧ hp' = []) := by
  refine AC.left (AC.body tokT Try.func36 rfl rfl rfl (by decide) (by rfl) ?_)
  refine AW.pre tokT (fun _ => true) ?_; (conv => whnf)
  refine ev_sound tokT (keep := fun _ => true) ?_
  (conv => whnf)
  refine AC.pure (within_ok _ _ _) (by (repeat' (first | exact True.intro | refine And.intro ?_ ?_))) (by (repeat' (exact True.intro))) ?_
  (conv => whnf); (cases h1 : (decide (0 ≤ s.key ∧ s.key ≤ 1073741824) : Bool) <;> (try simp only [beq_iff_eq, beq_eq_false_iff_ne, ne_eq, decide_eq_true_eq, decide_eq_false_iff_not, bne_iff_ne, bne_eq_false_iff_eq, Bool.not_eq_true, Bool.not_eq_false, gt_iff_lt, ge_iff_le] at h1) <;> (try (exfalso; omega)))
  · (conv => whnf); (refine Left.of [] (.bool false) [] (by rfl) (by rfl) (by rfl) (by (repeat' (exact True.intro))) (by rfl) (by (repeat' (exact True.intro))) ?_)
    exact ⟨congrArg AV.bool (decide_eq_false (by unfold Scr.ok; omega)).symm, rfl⟩
  (conv => whnf)
  refine AC.pure (within_ok _ _ _) (by (repeat' (first | exact True.intro | refine And.intro ?_ ?_))) (by (repeat' (exact True.intro))) ?_
  (conv => whnf); (cases h2 : (decide (0 ≤ s.other ∧ s.other ≤ 1073741824) : Bool) <;> (try simp only [beq_iff_eq, beq_eq_false_iff_ne, ne_eq, decide_eq_true_eq, decide_eq_false_iff_not, bne_iff_ne, bne_eq_false_iff_eq, Bool.not_eq_true, Bool.not_eq_false, gt_iff_lt, ge_iff_le] at h2) <;> (try (exfalso; omega)))
  · (conv => whnf); (refine Left.of [] (.bool false) [] (by rfl) (by rfl) (by rfl) (by (repeat' (exact True.intro))) (by rfl) (by (repeat' (exact True.intro))) ?_)
    exact ⟨congrArg AV.bool (decide_eq_false (by unfold Scr.ok; omega)).symm, rfl⟩
  (conv => whnf)
  refine AC.pure (within_ok _ _ _) (by (repeat' (first | exact True.intro | refine And.intro ?_ ?_))) (by (repeat' (exact True.intro))) ?_
  (conv => whnf); (cases h3 : (decide (0 ≤ s.rev ∧ s.rev ≤ 1073741824) : Bool) <;> (try simp only [beq_iff_eq, beq_eq_false_iff_ne, ne_eq, decide_eq_true_eq, decide_eq_false_iff_not, bne_iff_ne, bne_eq_false_iff_eq, Bool.not_eq_true, Bool.not_eq_false, gt_iff_lt, ge_iff_le] at h3) <;> (try (exfalso; omega)))
  · (conv => whnf); (refine Left.of [] (.bool false) [] (by rfl) (by rfl) (by rfl) (by (repeat' (exact True.intro))) (by rfl) (by (repeat' (exact True.intro))) ?_)
    exact ⟨congrArg AV.bool (decide_eq_false (by unfold Scr.ok; omega)).symm, rfl⟩
  (conv => whnf)
  refine AC.pure (within_ok _ _ _) (by (repeat' (first | exact True.intro | refine And.intro ?_ ?_))) (by (repeat' (exact True.intro))) ?_
  (conv => whnf); (cases h4 : (decide (1 ≤ s.kind ∧ s.kind ≤ 6) : Bool) <;> (try simp only [beq_iff_eq, beq_eq_false_iff_ne, ne_eq, decide_eq_true_eq, decide_eq_false_iff_not, bne_iff_ne, bne_eq_false_iff_eq, Bool.not_eq_true, Bool.not_eq_false, gt_iff_lt, ge_iff_le] at h4) <;> (try (exfalso; omega)))
  · (conv => whnf); (refine Left.of [] (.bool false) [] (by rfl) (by rfl) (by rfl) (by (repeat' (exact True.intro))) (by rfl) (by (repeat' (exact True.intro))) ?_)
    exact ⟨congrArg AV.bool (decide_eq_false (by unfold Scr.ok; omega)).symm, rfl⟩
  (conv => whnf)
  refine AC.pure (within_ok _ _ _) (by (repeat' (first | exact True.intro | refine And.intro ?_ ?_))) (by (repeat' (exact True.intro))) ?_
  (conv => whnf); (cases h5 : (decide (0 ≤ s.delay ∧ s.delay ≤ 65535) : Bool) <;> (try simp only [beq_iff_eq, beq_eq_false_iff_ne, ne_eq, decide_eq_true_eq, decide_eq_false_iff_not, bne_iff_ne, bne_eq_false_iff_eq, Bool.not_eq_true, Bool.not_eq_false, gt_iff_lt, ge_iff_le] at h5) <;> (try (exfalso; omega)))
  · (conv => whnf); (refine Left.of [] (.bool false) [] (by rfl) (by rfl) (by rfl) (by (repeat' (exact True.intro))) (by rfl) (by (repeat' (exact True.intro))) ?_)
    exact ⟨congrArg AV.bool (decide_eq_false (by unfold Scr.ok; omega)).symm, rfl⟩
  (conv => whnf)
  refine AC.pure (within_ok _ _ _) (by (repeat' (first | exact True.intro | refine And.intro ?_ ?_))) (by (repeat' (exact True.intro))) ?_
  (conv => whnf)
  (refine Left.of [] (.bool (decide (0 ≤ s.expiry ∧ s.expiry ≤ 1000000))) [] (by rfl) (by rfl) (by rfl) (by (repeat' (exact True.intro))) (by rfl) (by (repeat' (exact True.intro))) ?_)
  exact ⟨congrArg AV.bool (by rw [Bool.eq_iff_iff, decide_eq_true_eq, decide_eq_true_eq]; unfold Scr.ok; omega), rfl⟩
end Go.Aw
