/-
  AwSc2: script.Eval. Own work.
-/
import Derived.Test.YtdababcblhbpeaaAwSc1
import Derived.Test.YtdababcblhbpeaaAwSh6
set_option linter.unusedVariables false
set_option linter.unusedSimpArgs false
set_option maxRecDepth 20000
open Go.Proofs
namespace Go.Aw

theorem dec_and {p q : Prop} [Decidable p] [Decidable q] (h : p ↔ q) : decide p = decide q := by rw [Bool.eq_iff_iff, decide_eq_true_eq, decide_eq_true_eq]; exact h

theorem beq_dec {a b : Int} {p : Prop} [Decidable p] (h : a = b ↔ p) : (a == b) = decide p := by rw [Bool.eq_iff_iff, beq_iff_eq, decide_eq_true_eq]; exact h

theorem old_ok (c : Ctx3) (n : Int) : AC Try.prog 82 [c.av, .int .i64 n] [] (fun r hp' => r = .bool (decide (n ≤ c.seq ∧ n ≤ c.depth)) ∧ hp' = []) := by
  refine AC.left (AC.body tokT Try.func82 rfl rfl rfl (by decide) (by rfl) ?_)
  refine AW.pre tokT (fun _ => true) ?_; (conv => whnf)
  refine ev_sound tokT (keep := fun _ => true) ?_
  (conv => whnf); (cases h1 : (decide (c.seq ≥ n) : Bool) <;> (try simp only [beq_iff_eq, beq_eq_false_iff_ne, ne_eq, decide_eq_true_eq, decide_eq_false_iff_not, bne_iff_ne, bne_eq_false_iff_eq, Bool.not_eq_true, Bool.not_eq_false, gt_iff_lt, ge_iff_le] at h1) <;> (try (exfalso; omega)))
  · (conv => whnf); (refine Left.of [] (.bool false) [] (by rfl) (by rfl) (by rfl) (by (repeat' (exact True.intro))) (by rfl) (by (repeat' (exact True.intro))) ?_)
    exact ⟨congrArg AV.bool (decide_eq_false (by omega)).symm, rfl⟩
  · (conv => whnf); (refine Left.of [] (.bool (decide (c.depth ≥ n))) [] (by rfl) (by rfl) (by rfl) (by (repeat' (exact True.intro))) (by rfl) (by (repeat' (exact True.intro))) ?_)
    exact ⟨congrArg AV.bool (dec_and (by omega)), rfl⟩

theorem sigc_ok (w : Wit) (key : Int) : AC Try.prog 81 [.int .i64 key, .ptr 0 0 0 0] [⟨3, false, none, .var w.segs⟩] (fun r hp' => r = .bool (decide (w.kind = 1 ∧ w.key = key)) ∧ hp' = [⟨3, false, none, .var w.segs⟩]) := by
  refine AC.left (AC.body tokT Try.func81 rfl rfl rfl (by decide) (by rfl) ?_)
  refine AW.pre tokT (fun _ => true) ?_; (conv => whnf)
  refine ev_sound tokT (keep := fun _ => true) ?_
  (conv => whnf); (cases h1 : (w.kind == 1 : Bool) <;> (try simp only [beq_iff_eq, beq_eq_false_iff_ne, ne_eq, decide_eq_true_eq, decide_eq_false_iff_not, bne_iff_ne, bne_eq_false_iff_eq, Bool.not_eq_true, Bool.not_eq_false, gt_iff_lt, ge_iff_le] at h1) <;> (try (exfalso; omega)))
  · (conv => whnf); (refine Left.of [0] (.bool false) [⟨3, false, none, .var w.segs⟩] (by rfl) (by rfl) (by rfl) (by (repeat' (first | exact True.intro | exact rfl | refine And.intro ?_ ?_))) (by rfl) (by (repeat' (first | exact True.intro | exact rfl | refine And.intro ?_ ?_))) ?_)
    exact ⟨congrArg AV.bool (decide_eq_false (by omega)).symm, rfl⟩
  · (conv => whnf); (refine Left.of [0] (.bool (w.key == key)) [⟨3, false, none, .var w.segs⟩] (by rfl) (by rfl) (by rfl) (by (repeat' (first | exact True.intro | exact rfl | refine And.intro ?_ ?_))) (by rfl) (by (repeat' (first | exact True.intro | exact rfl | refine And.intro ?_ ?_))) ?_)
    exact ⟨congrArg AV.bool (beq_dec (by omega)), rfl⟩

/-- does a text have a script's hash? one, or nothing -/
def toldI (h : List Int) (pre : List UInt8) : Int := if shaL (bytesOfStr pre) = h then 1 else 0
theorem told_yes {h : List Int} {pre : List UInt8} (g : shaL (bytesOfStr pre) = h) : toldI h pre = 1 := if_pos g
theorem told_no {h : List Int} {pre : List UInt8} (g : ¬ shaL (bytesOfStr pre) = h) : toldI h pre = 0 := if_neg g

theorem tells_ok (s : Scr) (w : Wit) (key : Int) (hl : w.pre.length ≤ 4294967296) : AC Try.prog 83 [s.av, w.av, .int .i64 key] [] (fun r hp' => r = .bool (decide (w.kind = 2 ∧ w.key = key ∧ toldI s.hash w.pre = 1)) ∧ hp' = []) := by
  refine AC.left (AC.body tokT Try.func83 rfl rfl rfl (by decide) (by rfl) ?_)
  refine AW.pre tokT (fun _ => true) ?_; (conv => whnf)
  refine AW.seq (AW.draw [(false, 0), (false, 1), (false, 2), (false, 3), (false, 4), (false, 5), (false, 6), (false, 7), (false, 8), (false, 9), (false, 10), (false, 11), (false, 13), (false, 14), (true, 12), (false, 15), (false, 16), (false, 17)] (keep := fun _ => true) mixed_okS tokT (by kernel_rfl) (by kernel_rfl) ?_)
  ((conv => whnf); (repeat (((refine Exists.intro _ (And.intro (by ((conv => whnf); (repeat ((refine And.intro (by exact rfl) ?_); (conv => whnf))))) ?_)); (conv => whnf))))); (cases h1 : (w.kind == 2 : Bool) <;> (try simp only [beq_iff_eq, beq_eq_false_iff_ne, ne_eq, decide_eq_true_eq, decide_eq_false_iff_not, bne_iff_ne, bne_eq_false_iff_eq, Bool.not_eq_true, Bool.not_eq_false, gt_iff_lt, ge_iff_le] at h1) <;> (try (exfalso; omega)))
  · ((conv => whnf); (repeat (first | ((with_reducible (refine And.intro (show Go.Aw.againsK _ _ _ _ _ from ?_) ?_)); (focus (repeat' (first | ((with_reducible (show Go.Aw.againsK _ _ _ _ _)); (conv => whnf)) | ((with_reducible (show Go.Aw.againK _ _ _ _ _)); (conv => whnf)) | (with_reducible (exact True.intro)) | (with_reducible (refine And.intro ?_ ?_)) | exact rfl | (simp; omega)))); (conv => whnf)) | ((refine Exists.intro _ (And.intro (by ((conv => whnf); (repeat ((refine And.intro (by exact rfl) ?_); (conv => whnf))))) ?_)); (conv => whnf)))))
    refine ev_sound tokT (keep := fun _ => true) ?_
    (conv => whnf); (refine Left.of [] (.bool false) [] (by rfl) (by rfl) (by rfl) (by (repeat' (exact True.intro))) (by rfl) (by (repeat' (exact True.intro))) ?_)
    exact ⟨congrArg AV.bool (decide_eq_false (by omega)).symm, rfl⟩
  ((conv => whnf); (repeat (((refine Exists.intro _ (And.intro (by ((conv => whnf); (repeat ((refine And.intro (by exact rfl) ?_); (conv => whnf))))) ?_)); (conv => whnf))))); (cases h2 : (w.key == key : Bool) <;> (try simp only [beq_iff_eq, beq_eq_false_iff_ne, ne_eq, decide_eq_true_eq, decide_eq_false_iff_not, bne_iff_ne, bne_eq_false_iff_eq, Bool.not_eq_true, Bool.not_eq_false, gt_iff_lt, ge_iff_le] at h2) <;> (try (exfalso; omega)))
  · ((conv => whnf); (repeat (first | ((with_reducible (refine And.intro (show Go.Aw.againsK _ _ _ _ _ from ?_) ?_)); (focus (repeat' (first | ((with_reducible (show Go.Aw.againsK _ _ _ _ _)); (conv => whnf)) | ((with_reducible (show Go.Aw.againK _ _ _ _ _)); (conv => whnf)) | (with_reducible (exact True.intro)) | (with_reducible (refine And.intro ?_ ?_)) | exact rfl | (simp; omega)))); (conv => whnf)) | ((refine Exists.intro _ (And.intro (by ((conv => whnf); (repeat ((refine And.intro (by exact rfl) ?_); (conv => whnf))))) ?_)); (conv => whnf)))))
    refine ev_sound tokT (keep := fun _ => true) ?_
    (conv => whnf); (refine Left.of [] (.bool false) [] (by rfl) (by rfl) (by rfl) (by (repeat' (exact True.intro))) (by rfl) (by (repeat' (exact True.intro))) ?_)
    exact ⟨congrArg AV.bool (decide_eq_false (by omega)).symm, rfl⟩
  ((conv => whnf); (repeat (((refine Exists.intro _ (And.intro (by ((conv => whnf); (repeat ((refine And.intro (by exact rfl) ?_); (conv => whnf))))) ?_)); (conv => whnf)))))
  refine AC.frame (image_ok w.pre hl) [] (by (repeat' (exact True.intro))) (by rfl) (by (repeat' (first | exact True.intro | refine And.intro ?_ ?_))) (by rfl) ?_
  rintro r0 hp0 ⟨rfl, rfl⟩
  ((conv => whnf); (repeat (first | ((with_reducible (refine And.intro (show Go.Aw.againsK _ _ _ _ _ from ?_) ?_)); (focus (repeat' (first | ((with_reducible (show Go.Aw.againsK _ _ _ _ _)); (conv => whnf)) | ((with_reducible (show Go.Aw.againK _ _ _ _ _)); (conv => whnf)) | (with_reducible (exact True.intro)) | (with_reducible (refine And.intro ?_ ?_)) | exact rfl | (simp; omega)))); (conv => whnf)) | ((refine Exists.intro _ (And.intro (by ((conv => whnf); (repeat ((refine And.intro (by exact rfl) ?_); (conv => whnf))))) ?_)); (conv => whnf)))))
  refine ev_sound tokT (keep := fun _ => true) ?_
  by_cases ht : shaL (bytesOfStr w.pre) = s.hash
  · rw [show (shaL (bytesOfStr w.pre) == s.hash) = true by rw [ht]; simp]
    have := told_yes ht
    (conv => whnf); (refine Left.of [] (.bool true) [] (by rfl) (by rfl) (by rfl) (by (repeat' (exact True.intro))) (by rfl) (by (repeat' (exact True.intro))) ?_)
    exact ⟨congrArg AV.bool (decide_eq_true (by omega)).symm, rfl⟩
  · rw [show (shaL (bytesOfStr w.pre) == s.hash) = false by simpa using ht]
    have := told_no ht
    (conv => whnf); (refine Left.of [] (.bool false) [] (by rfl) (by rfl) (by rfl) (by (repeat' (exact True.intro))) (by rfl) (by (repeat' (exact True.intro))) ?_)
    exact ⟨congrArg AV.bool (decide_eq_false (by omega)).symm, rfl⟩

/-- may a witness spend? -/
def Evs (s : Scr) (w : Wit) (c : Ctx3) : Prop := s.ok ∧ (
  (s.kind = 1 ∧ (w.kind = 1 ∧ w.key = s.key)) ∨
  (s.kind = 2 ∧ ((w.kind = 1 ∧ w.key = s.key ∧ s.delay ≤ c.seq ∧ s.delay ≤ c.depth) ∨ (w.kind = 3 ∧ w.key = s.rev))) ∨
  (s.kind = 3 ∧ (w.kind = 1 ∧ w.key = s.key ∧ 1 ≤ c.seq ∧ 1 ≤ c.depth)) ∨
  (s.kind = 4 ∧ ((w.kind = 1 ∧ w.key = s.key) ∨ (w.kind = 4 ∧ 16 ≤ c.seq ∧ 16 ≤ c.depth))) ∨
  (s.kind = 5 ∧ ((w.kind = 1 ∧ w.key = s.key ∧ s.expiry ≤ c.lock) ∨ (w.kind = 2 ∧ w.key = s.other ∧ toldI s.hash w.pre = 1) ∨ (w.kind = 3 ∧ w.key = s.rev))) ∨
  (s.kind = 6 ∧ ((w.kind = 2 ∧ w.key = s.key ∧ toldI s.hash w.pre = 1) ∨ (w.kind = 1 ∧ w.key = s.other ∧ s.expiry ≤ c.lock) ∨ (w.kind = 3 ∧ w.key = s.rev))))
instance (s : Scr) (w : Wit) (c : Ctx3) : Decidable (Evs s w c) := by unfold Evs; infer_instance

section
variable {s : Scr} {w : Wit} {c : Ctx3}
theorem evs1 (h : s.ok) (k : s.kind = 1) : Evs s w c ↔ (w.kind = 1 ∧ w.key = s.key) := by unfold Evs; simp [h, k]
theorem evs2 (h : s.ok) (k : s.kind = 2) : Evs s w c ↔ ((w.kind = 1 ∧ w.key = s.key ∧ s.delay ≤ c.seq ∧ s.delay ≤ c.depth) ∨ (w.kind = 3 ∧ w.key = s.rev)) := by unfold Evs; simp [h, k]
theorem evs3 (h : s.ok) (k : s.kind = 3) : Evs s w c ↔ (w.kind = 1 ∧ w.key = s.key ∧ 1 ≤ c.seq ∧ 1 ≤ c.depth) := by unfold Evs; simp [h, k]
theorem evs4 (h : s.ok) (k : s.kind = 4) : Evs s w c ↔ ((w.kind = 1 ∧ w.key = s.key) ∨ (w.kind = 4 ∧ 16 ≤ c.seq ∧ 16 ≤ c.depth)) := by unfold Evs; simp [h, k]
theorem evs5 (h : s.ok) (k : s.kind = 5) : Evs s w c ↔ ((w.kind = 1 ∧ w.key = s.key ∧ s.expiry ≤ c.lock) ∨ (w.kind = 2 ∧ w.key = s.other ∧ toldI s.hash w.pre = 1) ∨ (w.kind = 3 ∧ w.key = s.rev)) := by unfold Evs; simp [h, k]
theorem evs6 (h : s.ok) (k : s.kind = 6) : Evs s w c ↔ ((w.kind = 2 ∧ w.key = s.key ∧ toldI s.hash w.pre = 1) ∨ (w.kind = 1 ∧ w.key = s.other ∧ s.expiry ≤ c.lock) ∨ (w.kind = 3 ∧ w.key = s.rev)) := by unfold Evs; simp [h, k]
theorem evs_bad (h : ¬ s.ok) : ¬ Evs s w c := by unfold Evs; exact fun g => h g.1
end

set_option maxHeartbeats 1000000 in
theorem eval_ok (s : Scr) (w : Wit) (c : Ctx3) (hl : w.pre.length ≤ 4294967296) : AC Try.prog 35 [s.av, w.av, c.av] [] (fun r hp' => r = .bool (decide (Evs s w c)) ∧ hp' = []) := by
  refine AC.left (AC.body tokT Try.func35 rfl rfl rfl (by decide) (by rfl) ?_)
  refine AW.pre tokT (fun _ => true) ?_; (conv => whnf)
  refine AW.scope 0 (by rfl) ?_
  refine AW.pre tokT (fun _ => true) ?_; (conv => whnf)
  refine AW.cutT (fun fr hp => fr = [(3, .ptr 0 0 0 0), (4, .ptr 1 0 0 0), (5, .ptr 2 0 0 0), (6, .bool false), (7, .fn 81 [.ptr 1 0 0 0]), (8, .bool (decide (w.kind = 3 ∧ w.key = s.rev)))] ∧
    hp = [⟨38, false, none, .var s.segs⟩, ⟨3, false, none, .var w.segs⟩, ⟨3, false, none, .var [.int .i64 c.seq, .int .i64 c.depth, .int .i64 c.lock]⟩]) ?_ ?_
  · refine ev_sound tokT (keep := fun _ => true) ?_
    (conv => whnf); (cases h1 : (w.kind == 3 : Bool) <;> (try simp only [beq_iff_eq, beq_eq_false_iff_ne, ne_eq, decide_eq_true_eq, decide_eq_false_iff_not, bne_iff_ne, bne_eq_false_iff_eq, Bool.not_eq_true, Bool.not_eq_false, gt_iff_lt, ge_iff_le] at h1) <;> (try (exfalso; omega)))
    · (conv => whnf)
      rw [show decide (w.kind = 3 ∧ w.key = s.rev) = false from decide_eq_false (by omega)]
      (refine Turned.of [0, 1, 2] [(3, .ptr 0 0 0 0), (4, .ptr 1 0 0 0), (5, .ptr 2 0 0 0), (6, .bool false), (7, .fn 81 [.ptr 1 0 0 0]), (8, .bool false)] [⟨38, false, none, .var s.segs⟩, ⟨3, false, none, .var w.segs⟩, ⟨3, false, none, .var [.int .i64 c.seq, .int .i64 c.depth, .int .i64 c.lock]⟩] (by rfl) (by rfl) (by rfl) (by (repeat' (first | exact True.intro | exact rfl | refine And.intro ?_ ?_ | (simp [AV.ren, AV.rens, AObj.ren, Ent.ren, AV.inn, AV.inns, AObj.inn, *]; done)))) (by (repeat' (first | exact True.intro | exact rfl | refine And.intro ?_ ?_ | (simp [AV.ren, AV.rens, AObj.ren, Ent.ren, AV.inn, AV.inns, AObj.inn, *]; done)))) ?_)
      exact ⟨rfl, rfl⟩
    · (conv => whnf)
      rw [show (w.key == s.rev) = decide (w.kind = 3 ∧ w.key = s.rev) from beq_dec (by omega)]
      (refine Turned.of [0, 1, 2] [(3, .ptr 0 0 0 0), (4, .ptr 1 0 0 0), (5, .ptr 2 0 0 0), (6, .bool false), (7, .fn 81 [.ptr 1 0 0 0]), (8, .bool (decide (w.kind = 3 ∧ w.key = s.rev)))] [⟨38, false, none, .var s.segs⟩, ⟨3, false, none, .var w.segs⟩, ⟨3, false, none, .var [.int .i64 c.seq, .int .i64 c.depth, .int .i64 c.lock]⟩] (by rfl) (by rfl) (by rfl) (by (repeat' (first | exact True.intro | exact rfl | refine And.intro ?_ ?_ | (simp [AV.ren, AV.rens, AObj.ren, Ent.ren, AV.inn, AV.inns, AObj.inn, *]; done)))) (by (repeat' (first | exact True.intro | exact rfl | refine And.intro ?_ ?_ | (simp [AV.ren, AV.rens, AObj.ren, Ent.ren, AV.inn, AV.inns, AObj.inn, *]; done)))) ?_)
      exact ⟨rfl, rfl⟩
  · rintro fr hp ⟨rfl, rfl⟩
    refine ev_sound tokT (keep := fun _ => true) ?_
    (conv => whnf)
    refine AC.pure (valid_ok s) (by (repeat' (first | exact True.intro | refine And.intro ?_ ?_))) (by (repeat' (exact True.intro))) ?_
    (conv => whnf)
    (cases hok : (decide s.ok : Bool) <;> (try simp only [beq_iff_eq, beq_eq_false_iff_ne, ne_eq, decide_eq_true_eq, decide_eq_false_iff_not, bne_iff_ne, bne_eq_false_iff_eq, Bool.not_eq_true, Bool.not_eq_false, gt_iff_lt, ge_iff_le] at hok) <;> (try (exfalso; omega)))
    case' false =>
      (conv => whnf)
      refine ev_sound tokT (keep := fun _ => true) ?_
      (conv => whnf)
      (refine Left.of [] (.bool false) [] (by rfl) (by rfl) (by rfl) (by (repeat' (exact True.intro))) (by rfl) (by (repeat' (exact True.intro))) ?_)
      exact ⟨congrArg AV.bool (decide_eq_false (evs_bad hok)).symm, rfl⟩
    (conv => whnf)
    (cases k1 : (s.kind == 1 : Bool) <;> (try simp only [beq_iff_eq, beq_eq_false_iff_ne, ne_eq, decide_eq_true_eq, decide_eq_false_iff_not, bne_iff_ne, bne_eq_false_iff_eq, Bool.not_eq_true, Bool.not_eq_false, gt_iff_lt, ge_iff_le] at k1) <;> (try (exfalso; omega)))
    case' true =>
      have hE := evs1 (w := w) (c := c) hok k1
      (conv => whnf)
      refine AC.frame (sigc_ok w s.key) [1] (by (repeat' (first | exact True.intro | exact rfl | refine And.intro ?_ ?_))) (by rfl) (by (repeat' (first | exact True.intro | refine And.intro ?_ ?_ | (simp [AV.ren, AV.rens, AObj.ren, Ent.ren, AV.inn, AV.inns, AObj.inn, *]; done)))) (by rfl) ?_
      rintro r0 hp0 ⟨rfl, rfl⟩
      (conv => whnf)
      (refine Left.of [] (.bool (decide (w.kind = 1 ∧ w.key = s.key))) [] (by rfl) (by rfl) (by rfl) (by (repeat' (exact True.intro))) (by rfl) (by (repeat' (exact True.intro))) ?_)
      exact ⟨congrArg AV.bool ((dec_and hE).trans (dec_and (by omega))).symm, rfl⟩
    (conv => whnf)
    (cases k2 : (s.kind == 2 : Bool) <;> (try simp only [beq_iff_eq, beq_eq_false_iff_ne, ne_eq, decide_eq_true_eq, decide_eq_false_iff_not, bne_iff_ne, bne_eq_false_iff_eq, Bool.not_eq_true, Bool.not_eq_false, gt_iff_lt, ge_iff_le] at k2) <;> (try (exfalso; omega)))
    case' true =>
      have hE := evs2 (w := w) (c := c) hok k2
      (conv => whnf)
      refine AC.frame (sigc_ok w s.key) [1] (by (repeat' (first | exact True.intro | exact rfl | refine And.intro ?_ ?_))) (by rfl) (by (repeat' (first | exact True.intro | refine And.intro ?_ ?_ | (simp [AV.ren, AV.rens, AObj.ren, Ent.ren, AV.inn, AV.inns, AObj.inn, *]; done)))) (by rfl) ?_
      rintro r0 hp0 ⟨rfl, rfl⟩
      (conv => whnf); (cases a1 : (decide (w.kind = 1 ∧ w.key = s.key) : Bool) <;> (try simp only [beq_iff_eq, beq_eq_false_iff_ne, ne_eq, decide_eq_true_eq, decide_eq_false_iff_not, bne_iff_ne, bne_eq_false_iff_eq, Bool.not_eq_true, Bool.not_eq_false, gt_iff_lt, ge_iff_le] at a1) <;> (try (exfalso; omega)))
      · (conv => whnf)
        (refine Left.of [] (.bool (decide (w.kind = 3 ∧ w.key = s.rev))) [] (by rfl) (by rfl) (by rfl) (by (repeat' (exact True.intro))) (by rfl) (by (repeat' (exact True.intro))) ?_)
        exact ⟨congrArg AV.bool ((dec_and hE).trans (dec_and (by omega))).symm, rfl⟩
      (conv => whnf)
      refine AC.pure (old_ok c s.delay) (by (repeat' (first | exact True.intro | refine And.intro ?_ ?_))) (by (repeat' (exact True.intro))) ?_
      (conv => whnf); (cases a2 : (decide (s.delay ≤ c.seq ∧ s.delay ≤ c.depth) : Bool) <;> (try simp only [beq_iff_eq, beq_eq_false_iff_ne, ne_eq, decide_eq_true_eq, decide_eq_false_iff_not, bne_iff_ne, bne_eq_false_iff_eq, Bool.not_eq_true, Bool.not_eq_false, gt_iff_lt, ge_iff_le] at a2) <;> (try (exfalso; omega)))
      · (conv => whnf)
        (refine Left.of [] (.bool (decide (w.kind = 3 ∧ w.key = s.rev))) [] (by rfl) (by rfl) (by rfl) (by (repeat' (exact True.intro))) (by rfl) (by (repeat' (exact True.intro))) ?_)
        exact ⟨congrArg AV.bool ((dec_and hE).trans (dec_and (by omega))).symm, rfl⟩
      (conv => whnf)
      (refine Left.of [] (.bool true) [] (by rfl) (by rfl) (by rfl) (by (repeat' (exact True.intro))) (by rfl) (by (repeat' (exact True.intro))) ?_)
      exact ⟨congrArg AV.bool ((dec_and hE).trans (decide_eq_true (by omega))).symm, rfl⟩
    (conv => whnf)
    (cases k3 : (s.kind == 3 : Bool) <;> (try simp only [beq_iff_eq, beq_eq_false_iff_ne, ne_eq, decide_eq_true_eq, decide_eq_false_iff_not, bne_iff_ne, bne_eq_false_iff_eq, Bool.not_eq_true, Bool.not_eq_false, gt_iff_lt, ge_iff_le] at k3) <;> (try (exfalso; omega)))
    case' true =>
      have hE := evs3 (w := w) (c := c) hok k3
      (conv => whnf)
      refine AC.frame (sigc_ok w s.key) [1] (by (repeat' (first | exact True.intro | exact rfl | refine And.intro ?_ ?_))) (by rfl) (by (repeat' (first | exact True.intro | refine And.intro ?_ ?_ | (simp [AV.ren, AV.rens, AObj.ren, Ent.ren, AV.inn, AV.inns, AObj.inn, *]; done)))) (by rfl) ?_
      rintro r0 hp0 ⟨rfl, rfl⟩
      (conv => whnf); (cases a1 : (decide (w.kind = 1 ∧ w.key = s.key) : Bool) <;> (try simp only [beq_iff_eq, beq_eq_false_iff_ne, ne_eq, decide_eq_true_eq, decide_eq_false_iff_not, bne_iff_ne, bne_eq_false_iff_eq, Bool.not_eq_true, Bool.not_eq_false, gt_iff_lt, ge_iff_le] at a1) <;> (try (exfalso; omega)))
      · (conv => whnf)
        (refine Left.of [] (.bool false) [] (by rfl) (by rfl) (by rfl) (by (repeat' (exact True.intro))) (by rfl) (by (repeat' (exact True.intro))) ?_)
        exact ⟨congrArg AV.bool ((dec_and hE).trans (decide_eq_false (by omega))).symm, rfl⟩
      (conv => whnf)
      refine AC.pure (old_ok c 1) (by (repeat' (first | exact True.intro | refine And.intro ?_ ?_))) (by (repeat' (exact True.intro))) ?_
      (conv => whnf)
      (refine Left.of [] (.bool (decide (1 ≤ c.seq ∧ 1 ≤ c.depth))) [] (by rfl) (by rfl) (by rfl) (by (repeat' (exact True.intro))) (by rfl) (by (repeat' (exact True.intro))) ?_)
      exact ⟨congrArg AV.bool ((dec_and hE).trans (dec_and (by omega))).symm, rfl⟩
    (conv => whnf)
    (cases k4 : (s.kind == 4 : Bool) <;> (try simp only [beq_iff_eq, beq_eq_false_iff_ne, ne_eq, decide_eq_true_eq, decide_eq_false_iff_not, bne_iff_ne, bne_eq_false_iff_eq, Bool.not_eq_true, Bool.not_eq_false, gt_iff_lt, ge_iff_le] at k4) <;> (try (exfalso; omega)))
    case' true =>
      have hE := evs4 (w := w) (c := c) hok k4
      (conv => whnf)
      refine AC.frame (sigc_ok w s.key) [1] (by (repeat' (first | exact True.intro | exact rfl | refine And.intro ?_ ?_))) (by rfl) (by (repeat' (first | exact True.intro | refine And.intro ?_ ?_ | (simp [AV.ren, AV.rens, AObj.ren, Ent.ren, AV.inn, AV.inns, AObj.inn, *]; done)))) (by rfl) ?_
      rintro r0 hp0 ⟨rfl, rfl⟩
      (conv => whnf); (cases a1 : (decide (w.kind = 1 ∧ w.key = s.key) : Bool) <;> (try simp only [beq_iff_eq, beq_eq_false_iff_ne, ne_eq, decide_eq_true_eq, decide_eq_false_iff_not, bne_iff_ne, bne_eq_false_iff_eq, Bool.not_eq_true, Bool.not_eq_false, gt_iff_lt, ge_iff_le] at a1) <;> (try (exfalso; omega)))
      case' true =>
        (conv => whnf)
        (refine Left.of [] (.bool true) [] (by rfl) (by rfl) (by rfl) (by (repeat' (exact True.intro))) (by rfl) (by (repeat' (exact True.intro))) ?_)
        exact ⟨congrArg AV.bool ((dec_and hE).trans (decide_eq_true (by omega))).symm, rfl⟩
      (conv => whnf); (cases a2 : (w.kind == 4 : Bool) <;> (try simp only [beq_iff_eq, beq_eq_false_iff_ne, ne_eq, decide_eq_true_eq, decide_eq_false_iff_not, bne_iff_ne, bne_eq_false_iff_eq, Bool.not_eq_true, Bool.not_eq_false, gt_iff_lt, ge_iff_le] at a2) <;> (try (exfalso; omega)))
      · (conv => whnf)
        (refine Left.of [] (.bool false) [] (by rfl) (by rfl) (by rfl) (by (repeat' (exact True.intro))) (by rfl) (by (repeat' (exact True.intro))) ?_)
        exact ⟨congrArg AV.bool ((dec_and hE).trans (decide_eq_false (by omega))).symm, rfl⟩
      (conv => whnf)
      refine AC.pure (old_ok c 16) (by (repeat' (first | exact True.intro | refine And.intro ?_ ?_))) (by (repeat' (exact True.intro))) ?_
      (conv => whnf)
      (refine Left.of [] (.bool (decide (16 ≤ c.seq ∧ 16 ≤ c.depth))) [] (by rfl) (by rfl) (by rfl) (by (repeat' (exact True.intro))) (by rfl) (by (repeat' (exact True.intro))) ?_)
      exact ⟨congrArg AV.bool ((dec_and hE).trans (dec_and (by omega))).symm, rfl⟩
    (conv => whnf)
    (cases k5 : (s.kind == 5 : Bool) <;> (try simp only [beq_iff_eq, beq_eq_false_iff_ne, ne_eq, decide_eq_true_eq, decide_eq_false_iff_not, bne_iff_ne, bne_eq_false_iff_eq, Bool.not_eq_true, Bool.not_eq_false, gt_iff_lt, ge_iff_le] at k5) <;> (try (exfalso; omega)))
    case' true =>
      have hE := evs5 (w := w) (c := c) hok k5
      (conv => whnf)
      refine AC.frame (sigc_ok w s.key) [1] (by (repeat' (first | exact True.intro | exact rfl | refine And.intro ?_ ?_))) (by rfl) (by (repeat' (first | exact True.intro | refine And.intro ?_ ?_ | (simp [AV.ren, AV.rens, AObj.ren, Ent.ren, AV.inn, AV.inns, AObj.inn, *]; done)))) (by rfl) ?_
      rintro r0 hp0 ⟨rfl, rfl⟩
      (conv => whnf); (cases a1 : (decide (w.kind = 1 ∧ w.key = s.key) : Bool) <;> (try simp only [beq_iff_eq, beq_eq_false_iff_ne, ne_eq, decide_eq_true_eq, decide_eq_false_iff_not, bne_iff_ne, bne_eq_false_iff_eq, Bool.not_eq_true, Bool.not_eq_false, gt_iff_lt, ge_iff_le] at a1) <;> (try (exfalso; omega)))
      case' true =>
        (conv => whnf); (cases a2 : (decide (c.lock ≥ s.expiry) : Bool) <;> (try simp only [beq_iff_eq, beq_eq_false_iff_ne, ne_eq, decide_eq_true_eq, decide_eq_false_iff_not, bne_iff_ne, bne_eq_false_iff_eq, Bool.not_eq_true, Bool.not_eq_false, gt_iff_lt, ge_iff_le] at a2) <;> (try (exfalso; omega)))
        case' true =>
          (conv => whnf)
          (refine Left.of [] (.bool true) [] (by rfl) (by rfl) (by rfl) (by (repeat' (exact True.intro))) (by rfl) (by (repeat' (exact True.intro))) ?_)
          exact ⟨congrArg AV.bool ((dec_and hE).trans (decide_eq_true (by omega))).symm, rfl⟩
        (conv => whnf)
        refine AC.pure (tells_ok s w s.other hl) (by (repeat' (first | exact True.intro | refine And.intro ?_ ?_))) (by (repeat' (exact True.intro))) ?_
        (conv => whnf); (cases a3 : (decide (w.kind = 2 ∧ w.key = s.other ∧ toldI s.hash w.pre = 1) : Bool) <;> (try simp only [beq_iff_eq, beq_eq_false_iff_ne, ne_eq, decide_eq_true_eq, decide_eq_false_iff_not, bne_iff_ne, bne_eq_false_iff_eq, Bool.not_eq_true, Bool.not_eq_false, gt_iff_lt, ge_iff_le] at a3) <;> (try (exfalso; omega)))
        (conv => whnf)
        (refine Left.of [] (.bool (decide (w.kind = 3 ∧ w.key = s.rev))) [] (by rfl) (by rfl) (by rfl) (by (repeat' (exact True.intro))) (by rfl) (by (repeat' (exact True.intro))) ?_)
        exact ⟨congrArg AV.bool ((dec_and hE).trans (dec_and (by omega))).symm, rfl⟩
      (conv => whnf)
      refine AC.pure (tells_ok s w s.other hl) (by (repeat' (first | exact True.intro | refine And.intro ?_ ?_))) (by (repeat' (exact True.intro))) ?_
      (conv => whnf); (cases a3 : (decide (w.kind = 2 ∧ w.key = s.other ∧ toldI s.hash w.pre = 1) : Bool) <;> (try simp only [beq_iff_eq, beq_eq_false_iff_ne, ne_eq, decide_eq_true_eq, decide_eq_false_iff_not, bne_iff_ne, bne_eq_false_iff_eq, Bool.not_eq_true, Bool.not_eq_false, gt_iff_lt, ge_iff_le] at a3) <;> (try (exfalso; omega)))
      case' true =>
        (conv => whnf)
        (refine Left.of [] (.bool true) [] (by rfl) (by rfl) (by rfl) (by (repeat' (exact True.intro))) (by rfl) (by (repeat' (exact True.intro))) ?_)
        exact ⟨congrArg AV.bool ((dec_and hE).trans (decide_eq_true (by omega))).symm, rfl⟩
      (conv => whnf)
      (refine Left.of [] (.bool (decide (w.kind = 3 ∧ w.key = s.rev))) [] (by rfl) (by rfl) (by rfl) (by (repeat' (exact True.intro))) (by rfl) (by (repeat' (exact True.intro))) ?_)
      exact ⟨congrArg AV.bool ((dec_and hE).trans (dec_and (by omega))).symm, rfl⟩
    (conv => whnf)
    (cases k6 : (s.kind == 6 : Bool) <;> (try simp only [beq_iff_eq, beq_eq_false_iff_ne, ne_eq, decide_eq_true_eq, decide_eq_false_iff_not, bne_iff_ne, bne_eq_false_iff_eq, Bool.not_eq_true, Bool.not_eq_false, gt_iff_lt, ge_iff_le] at k6) <;> (try (exfalso; omega)))
    case' true =>
      have hE := evs6 (w := w) (c := c) hok k6
      (conv => whnf)
      refine AC.pure (tells_ok s w s.key hl) (by (repeat' (first | exact True.intro | refine And.intro ?_ ?_))) (by (repeat' (exact True.intro))) ?_
      (conv => whnf); (cases a3 : (decide (w.kind = 2 ∧ w.key = s.key ∧ toldI s.hash w.pre = 1) : Bool) <;> (try simp only [beq_iff_eq, beq_eq_false_iff_ne, ne_eq, decide_eq_true_eq, decide_eq_false_iff_not, bne_iff_ne, bne_eq_false_iff_eq, Bool.not_eq_true, Bool.not_eq_false, gt_iff_lt, ge_iff_le] at a3) <;> (try (exfalso; omega)))
      case' true =>
        (conv => whnf)
        (refine Left.of [] (.bool true) [] (by rfl) (by rfl) (by rfl) (by (repeat' (exact True.intro))) (by rfl) (by (repeat' (exact True.intro))) ?_)
        exact ⟨congrArg AV.bool ((dec_and hE).trans (decide_eq_true (by omega))).symm, rfl⟩
      (conv => whnf)
      refine AC.frame (sigc_ok w s.other) [1] (by (repeat' (first | exact True.intro | exact rfl | refine And.intro ?_ ?_))) (by rfl) (by (repeat' (first | exact True.intro | refine And.intro ?_ ?_ | (simp [AV.ren, AV.rens, AObj.ren, Ent.ren, AV.inn, AV.inns, AObj.inn, *]; done)))) (by rfl) ?_
      rintro r0 hp0 ⟨rfl, rfl⟩
      (conv => whnf); (cases a1 : (decide (w.kind = 1 ∧ w.key = s.other) : Bool) <;> (try simp only [beq_iff_eq, beq_eq_false_iff_ne, ne_eq, decide_eq_true_eq, decide_eq_false_iff_not, bne_iff_ne, bne_eq_false_iff_eq, Bool.not_eq_true, Bool.not_eq_false, gt_iff_lt, ge_iff_le] at a1) <;> (try (exfalso; omega)))
      · (conv => whnf)
        (refine Left.of [] (.bool (decide (w.kind = 3 ∧ w.key = s.rev))) [] (by rfl) (by rfl) (by rfl) (by (repeat' (exact True.intro))) (by rfl) (by (repeat' (exact True.intro))) ?_)
        exact ⟨congrArg AV.bool ((dec_and hE).trans (dec_and (by omega))).symm, rfl⟩
      (conv => whnf); (cases a2 : (decide (c.lock ≥ s.expiry) : Bool) <;> (try simp only [beq_iff_eq, beq_eq_false_iff_ne, ne_eq, decide_eq_true_eq, decide_eq_false_iff_not, bne_iff_ne, bne_eq_false_iff_eq, Bool.not_eq_true, Bool.not_eq_false, gt_iff_lt, ge_iff_le] at a2) <;> (try (exfalso; omega)))
      · (conv => whnf)
        (refine Left.of [] (.bool (decide (w.kind = 3 ∧ w.key = s.rev))) [] (by rfl) (by rfl) (by rfl) (by (repeat' (exact True.intro))) (by rfl) (by (repeat' (exact True.intro))) ?_)
        exact ⟨congrArg AV.bool ((dec_and hE).trans (dec_and (by omega))).symm, rfl⟩
      (conv => whnf)
      (refine Left.of [] (.bool true) [] (by rfl) (by rfl) (by rfl) (by (repeat' (exact True.intro))) (by rfl) (by (repeat' (exact True.intro))) ?_)
      exact ⟨congrArg AV.bool ((dec_and hE).trans (decide_eq_true (by omega))).symm, rfl⟩
    exfalso
    unfold Scr.ok at hok
    omega

@[irreducible] def evB (s : Scr) (w : Wit) (c : Ctx3) : Bool := decide (Evs s w c)
@[irreducible] def okB (s : Scr) : Bool := decide s.ok
theorem evB_eq (s : Scr) (w : Wit) (c : Ctx3) : evB s w c = decide (Evs s w c) := by unfold evB; rfl
theorem okB_eq (s : Scr) : okB s = decide s.ok := by unfold okB; rfl
theorem evB_true {s : Scr} {w : Wit} {c : Ctx3} : evB s w c = true ↔ Evs s w c := by rw [evB_eq, decide_eq_true_eq]
theorem okB_true {s : Scr} : okB s = true ↔ s.ok := by rw [okB_eq, decide_eq_true_eq]
theorem eval_b (s : Scr) (w : Wit) (c : Ctx3) (hl : w.pre.length ≤ 4294967296) : AC Try.prog 35 [s.av, w.av, c.av] [] (fun r hp' => r = .bool (evB s w c) ∧ hp' = []) :=
  AC.mono (eval_ok s w c hl) fun r hp' h => by rw [evB_eq]; exact h
theorem valid_b (s : Scr) : AC Try.prog 36 [s.av] [] (fun r hp' => r = .bool (okB s) ∧ hp' = []) :=
  AC.mono (valid_ok s) fun r hp' h => by rw [okB_eq]; exact h
end Go.Aw
