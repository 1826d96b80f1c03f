/-
  AwSc3: what is fixed of scripts; the laws ScriptAges and ScriptGrows. Own work.
-/
import Derived.Test.YtdababcblhbpeaaAwSc2
set_option linter.unusedVariables false
set_option linter.unusedSimpArgs false
set_option maxRecDepth 20000
open Go.Proofs
namespace Go.Aw

def zeroH : List Int := List.replicate 32 0

theorem pay_ok (key : Int) : AC Try.prog 43 [.int .i64 key] [] (fun r hp' => r = (⟨1, key, 0, 0, 0, 0, List.replicate 32 0⟩ : Scr).av ∧ hp' = []) := by
  refine AC.left (AC.body tokT Try.func43 rfl rfl rfl (by decide) (by rfl) ?_)
  refine ev_sound tokT (keep := fun _ => true) ?_
  (conv => whnf)
  (refine Left.of [] ((⟨1, key, 0, 0, 0, 0, List.replicate 32 0⟩ : Scr).av) [] (by rfl) (by rfl) (by rfl) (by (repeat' (first | exact True.intro | refine And.intro ?_ ?_))) (by rfl) (by (repeat' (first | exact True.intro | refine And.intro ?_ ?_))) ?_)
  exact ⟨rfl, rfl⟩

theorem awake13_ok : AC Try.prog 34 [] [] (fun r hp' => r = .bool true ∧ hp' = []) := by
  refine AC.left (AC.body tokT Try.func34 rfl rfl rfl (by decide) (by rfl) ?_)
  refine AW.pre tokT (fun _ => true) ?_; (conv => whnf)
  refine AW.pre tokT (fun _ => true) ?_; (conv => whnf)
  refine AW.pre tokT (fun _ => true) ?_; (conv => whnf)
  refine ev_sound tokT (keep := fun _ => true) ?_
  (conv => whnf)
  refine AC.frame (eval_b ⟨2, 2, 0, 3, 5, 0, List.replicate 32 0⟩ ⟨1, 2, []⟩ ⟨5, 5, 0⟩ (by decide)) [] (by (repeat' (exact True.intro))) (by rfl) (by (repeat' (first | exact True.intro | refine And.intro ?_ ?_))) (by rfl) ?_
  rintro r0 hp0 ⟨rfl, rfl⟩
  rw [evB_true.2 (show Evs ⟨2, 2, 0, 3, 5, 0, List.replicate 32 0⟩ ⟨1, 2, []⟩ ⟨5, 5, 0⟩ by unfold Evs Scr.ok; simp)]
  (conv => whnf)
  refine AC.frame (eval_b ⟨2, 2, 0, 3, 5, 0, List.replicate 32 0⟩ ⟨1, 2, []⟩ ⟨5, 4, 0⟩ (by decide)) [] (by (repeat' (exact True.intro))) (by rfl) (by (repeat' (first | exact True.intro | refine And.intro ?_ ?_))) (by rfl) ?_
  rintro r0 hp0 ⟨rfl, rfl⟩
  rw [show evB ⟨2, 2, 0, 3, 5, 0, List.replicate 32 0⟩ ⟨1, 2, []⟩ ⟨5, 4, 0⟩ = false from (evB_eq _ _ _).trans (decide_eq_false (by unfold Evs Scr.ok; simp))]
  (conv => whnf)
  refine AC.frame (eval_b ⟨2, 2, 0, 3, 5, 0, List.replicate 32 0⟩ ⟨3, 3, []⟩ ⟨0, 0, 0⟩ (by decide)) [] (by (repeat' (exact True.intro))) (by rfl) (by (repeat' (first | exact True.intro | refine And.intro ?_ ?_))) (by rfl) ?_
  rintro r0 hp0 ⟨rfl, rfl⟩
  rw [evB_true.2 (show Evs ⟨2, 2, 0, 3, 5, 0, List.replicate 32 0⟩ ⟨3, 3, []⟩ ⟨0, 0, 0⟩ by unfold Evs Scr.ok; simp)]
  (conv => whnf)
  refine AC.frame (valid_b ⟨0, 0, 0, 0, 0, 0, List.replicate 32 0⟩) [] (by (repeat' (exact True.intro))) (by rfl) (by (repeat' (first | exact True.intro | refine And.intro ?_ ?_))) (by rfl) ?_
  rintro r0 hp0 ⟨rfl, rfl⟩
  rw [show okB ⟨0, 0, 0, 0, 0, 0, List.replicate 32 0⟩ = false from (okB_eq _).trans (decide_eq_false (by unfold Scr.ok; simp))]
  (conv => whnf)
  refine AC.frame (pay_ok 7) [] (by (repeat' (exact True.intro))) (by rfl) (by (repeat' (first | exact True.intro | refine And.intro ?_ ?_))) (by rfl) ?_
  rintro r0 hp0 ⟨rfl, rfl⟩
  (conv => whnf)
  (refine Left.of [] (.bool true) [] (by rfl) (by rfl) (by rfl) (by (repeat' (exact True.intro))) (by rfl) (by (repeat' (exact True.intro))) ?_)
  exact ⟨rfl, rfl⟩




set_option maxHeartbeats 1000000 in
theorem ages_law (delay seq depth key : Int) : AC Try.prog 10 [.int .i64 delay, .int .i64 seq, .int .i64 depth, .int .i64 key] [] (fun r hp' => r = .bool true ∧ hp' = []) := by
  refine AC.left (AC.body tokT Try.func10 rfl rfl rfl (by decide) (by rfl) ?_)
  refine AW.pre tokT (fun _ => true) ?_; (conv => whnf)
  refine AW.cutT (fun fr hp => 0 ≤ delay ∧ delay ≤ 65535 ∧ fr = [(0, .int .i64 delay), (1, .int .i64 seq), (2, .int .i64 depth), (3, .int .i64 key)] ∧ hp = []) ?_ ?_
  · refine ev_sound tokT (keep := fun _ => true) ?_
    (conv => whnf); (cases c1 : (decide (delay < 0) : Bool) <;> (try simp only [beq_iff_eq, beq_eq_false_iff_ne, ne_eq, decide_eq_true_eq, decide_eq_false_iff_not, bne_iff_ne, bne_eq_false_iff_eq, Bool.not_eq_true, Bool.not_eq_false, gt_iff_lt, ge_iff_le] at c1) <;> (try (exfalso; omega)))
    case' true =>
      (conv => whnf)
      refine AC.pure awake13_ok (by (repeat' (exact True.intro))) (by (repeat' (exact True.intro))) ?_
      (conv => whnf); (refine Left.of [] (.bool true) [] (by rfl) (by rfl) (by rfl) (by (repeat' (exact True.intro))) (by rfl) (by (repeat' (exact True.intro))) ?_)
      exact ⟨rfl, rfl⟩
    (conv => whnf); (cases c2 : (decide (delay > 65535) : Bool) <;> (try simp only [beq_iff_eq, beq_eq_false_iff_ne, ne_eq, decide_eq_true_eq, decide_eq_false_iff_not, bne_iff_ne, bne_eq_false_iff_eq, Bool.not_eq_true, Bool.not_eq_false, gt_iff_lt, ge_iff_le] at c2) <;> (try (exfalso; omega)))
    case' true =>
      (conv => whnf)
      refine AC.pure awake13_ok (by (repeat' (exact True.intro))) (by (repeat' (exact True.intro))) ?_
      (conv => whnf); (refine Left.of [] (.bool true) [] (by rfl) (by rfl) (by rfl) (by (repeat' (exact True.intro))) (by rfl) (by (repeat' (exact True.intro))) ?_)
      exact ⟨rfl, rfl⟩
    (conv => whnf); (cases c3 : (decide (seq < 0) : Bool) <;> (try simp only [beq_iff_eq, beq_eq_false_iff_ne, ne_eq, decide_eq_true_eq, decide_eq_false_iff_not, bne_iff_ne, bne_eq_false_iff_eq, Bool.not_eq_true, Bool.not_eq_false, gt_iff_lt, ge_iff_le] at c3) <;> (try (exfalso; omega)))
    case' true =>
      (conv => whnf)
      refine AC.pure awake13_ok (by (repeat' (exact True.intro))) (by (repeat' (exact True.intro))) ?_
      (conv => whnf); (refine Left.of [] (.bool true) [] (by rfl) (by rfl) (by rfl) (by (repeat' (exact True.intro))) (by rfl) (by (repeat' (exact True.intro))) ?_)
      exact ⟨rfl, rfl⟩
    (conv => whnf); (cases c4 : (decide (seq > 65535) : Bool) <;> (try simp only [beq_iff_eq, beq_eq_false_iff_ne, ne_eq, decide_eq_true_eq, decide_eq_false_iff_not, bne_iff_ne, bne_eq_false_iff_eq, Bool.not_eq_true, Bool.not_eq_false, gt_iff_lt, ge_iff_le] at c4) <;> (try (exfalso; omega)))
    case' true =>
      (conv => whnf)
      refine AC.pure awake13_ok (by (repeat' (exact True.intro))) (by (repeat' (exact True.intro))) ?_
      (conv => whnf); (refine Left.of [] (.bool true) [] (by rfl) (by rfl) (by rfl) (by (repeat' (exact True.intro))) (by rfl) (by (repeat' (exact True.intro))) ?_)
      exact ⟨rfl, rfl⟩
    (conv => whnf); (cases c5 : (decide (depth < 0) : Bool) <;> (try simp only [beq_iff_eq, beq_eq_false_iff_ne, ne_eq, decide_eq_true_eq, decide_eq_false_iff_not, bne_iff_ne, bne_eq_false_iff_eq, Bool.not_eq_true, Bool.not_eq_false, gt_iff_lt, ge_iff_le] at c5) <;> (try (exfalso; omega)))
    case' true =>
      (conv => whnf)
      refine AC.pure awake13_ok (by (repeat' (exact True.intro))) (by (repeat' (exact True.intro))) ?_
      (conv => whnf); (refine Left.of [] (.bool true) [] (by rfl) (by rfl) (by rfl) (by (repeat' (exact True.intro))) (by rfl) (by (repeat' (exact True.intro))) ?_)
      exact ⟨rfl, rfl⟩
    (conv => whnf); (cases c6 : (decide (depth > 100000) : Bool) <;> (try simp only [beq_iff_eq, beq_eq_false_iff_ne, ne_eq, decide_eq_true_eq, decide_eq_false_iff_not, bne_iff_ne, bne_eq_false_iff_eq, Bool.not_eq_true, Bool.not_eq_false, gt_iff_lt, ge_iff_le] at c6) <;> (try (exfalso; omega)))
    case' true =>
      (conv => whnf)
      refine AC.pure awake13_ok (by (repeat' (exact True.intro))) (by (repeat' (exact True.intro))) ?_
      (conv => whnf); (refine Left.of [] (.bool true) [] (by rfl) (by rfl) (by rfl) (by (repeat' (exact True.intro))) (by rfl) (by (repeat' (exact True.intro))) ?_)
      exact ⟨rfl, rfl⟩
    (conv => whnf); (cases c7 : (decide (key < 0) : Bool) <;> (try simp only [beq_iff_eq, beq_eq_false_iff_ne, ne_eq, decide_eq_true_eq, decide_eq_false_iff_not, bne_iff_ne, bne_eq_false_iff_eq, Bool.not_eq_true, Bool.not_eq_false, gt_iff_lt, ge_iff_le] at c7) <;> (try (exfalso; omega)))
    case' true =>
      (conv => whnf)
      refine AC.pure awake13_ok (by (repeat' (exact True.intro))) (by (repeat' (exact True.intro))) ?_
      (conv => whnf); (refine Left.of [] (.bool true) [] (by rfl) (by rfl) (by rfl) (by (repeat' (exact True.intro))) (by rfl) (by (repeat' (exact True.intro))) ?_)
      exact ⟨rfl, rfl⟩
    (conv => whnf); (cases c8 : (decide (key > 9) : Bool) <;> (try simp only [beq_iff_eq, beq_eq_false_iff_ne, ne_eq, decide_eq_true_eq, decide_eq_false_iff_not, bne_iff_ne, bne_eq_false_iff_eq, Bool.not_eq_true, Bool.not_eq_false, gt_iff_lt, ge_iff_le] at c8) <;> (try (exfalso; omega)))
    case' true =>
      (conv => whnf)
      refine AC.pure awake13_ok (by (repeat' (exact True.intro))) (by (repeat' (exact True.intro))) ?_
      (conv => whnf); (refine Left.of [] (.bool true) [] (by rfl) (by rfl) (by rfl) (by (repeat' (exact True.intro))) (by rfl) (by (repeat' (exact True.intro))) ?_)
      exact ⟨rfl, rfl⟩
    (conv => whnf)
    (refine Turned.of [] [(0, .int .i64 delay), (1, .int .i64 seq), (2, .int .i64 depth), (3, .int .i64 key)] [] (by rfl) (by rfl) (by rfl) (by (repeat' (first | exact True.intro | exact rfl | refine And.intro ?_ ?_))) (by (repeat' (first | exact True.intro | exact rfl | refine And.intro ?_ ?_))) ?_)
    exact ⟨by omega, by omega, rfl, rfl⟩
  · rintro fr hp ⟨hd0, hd1, rfl, rfl⟩
    obtain ⟨x, hx⟩ : ∃ x, (key == 2) = x := ⟨_, rfl⟩
    obtain ⟨y, hy⟩ : ∃ y, (key == 3) = y := ⟨_, rfl⟩
    have h2 : key = 2 ↔ x = true := by rw [← hx]; simp
    have h3 : key = 3 ↔ y = true := by rw [← hy]; simp
    have ok2 : Scr.ok ⟨2, 2, 7, 3, delay, 0, List.replicate 32 0⟩ := by unfold Scr.ok; simp; omega
    have ok3 : Scr.ok ⟨3, 2, 7, 3, 0, 0, List.replicate 32 0⟩ := by unfold Scr.ok; simp
    have ok4 : Scr.ok ⟨4, 2, 7, 3, 0, 0, List.replicate 32 0⟩ := by unfold Scr.ok; simp
    have e1 : evB ⟨2, 2, 7, 3, delay, 0, List.replicate 32 0⟩ ⟨1, key, []⟩ ⟨seq, depth, 0⟩ = (x && decide ((if depth < seq then depth else seq) ≥ delay)) := by
      rw [evB_eq, dec_and (evs2 ok2 rfl), Bool.eq_iff_iff, decide_eq_true_eq, Bool.and_eq_true, decide_eq_true_eq, ← h2]
      simp <;> intros <;> (try split) <;> omega
    have e2 : evB ⟨2, 2, 7, 3, delay, 0, List.replicate 32 0⟩ ⟨3, key, []⟩ ⟨seq, depth, 0⟩ = y := by
      rw [evB_eq, dec_and (evs2 ok2 rfl), Bool.eq_iff_iff, decide_eq_true_eq, ← h3]
      simp <;> intros <;> omega
    have e3 : evB ⟨2, 2, 7, 3, delay, 0, List.replicate 32 0⟩ ⟨4, key, []⟩ ⟨seq, depth, 0⟩ = false := by
      rw [evB_eq, dec_and (evs2 ok2 rfl), decide_eq_false_iff_not]
      simp
    have e4 : evB ⟨3, 2, 7, 3, 0, 0, List.replicate 32 0⟩ ⟨1, key, []⟩ ⟨seq, depth, 0⟩ = (x && decide ((if depth < seq then depth else seq) ≥ 1)) := by
      rw [evB_eq, dec_and (evs3 ok3 rfl), Bool.eq_iff_iff, decide_eq_true_eq, Bool.and_eq_true, decide_eq_true_eq, ← h2]
      simp <;> intros <;> (try split) <;> omega
    have e5 : evB ⟨3, 2, 7, 3, 0, 0, List.replicate 32 0⟩ ⟨3, key, []⟩ ⟨seq, depth, 0⟩ = false := by
      rw [evB_eq, dec_and (evs3 ok3 rfl), decide_eq_false_iff_not]
      simp
    have e6 : evB ⟨3, 2, 7, 3, 0, 0, List.replicate 32 0⟩ ⟨4, key, []⟩ ⟨seq, depth, 0⟩ = false := by
      rw [evB_eq, dec_and (evs3 ok3 rfl), decide_eq_false_iff_not]
      simp
    have e7 : evB ⟨4, 2, 7, 3, 0, 0, List.replicate 32 0⟩ ⟨1, key, []⟩ ⟨seq, depth, 0⟩ = x := by
      rw [evB_eq, dec_and (evs4 ok4 rfl), Bool.eq_iff_iff, decide_eq_true_eq, ← h2]
      simp <;> intros <;> omega
    have e8 : evB ⟨4, 2, 7, 3, 0, 0, List.replicate 32 0⟩ ⟨4, key, []⟩ ⟨seq, depth, 0⟩ = decide ((if depth < seq then depth else seq) ≥ 16) := by
      rw [evB_eq, dec_and (evs4 ok4 rfl)]
      refine dec_and ?_
      simp <;> intros <;> (try split) <;> omega
    have e9 : evB ⟨4, 2, 7, 3, 0, 0, List.replicate 32 0⟩ ⟨3, key, []⟩ ⟨seq, depth, 0⟩ = false := by
      rw [evB_eq, dec_and (evs4 ok4 rfl), decide_eq_false_iff_not]
      simp
    clear h2 h3
    refine AW.pre tokT (fun _ => true) ?_; (conv => whnf)
    refine AW.pre tokT (fun _ => true) ?_; (conv => whnf)
    refine AW.pre tokT (fun _ => true) ?_; (conv => whnf)
    refine AW.pre tokT (fun _ => true) ?_; (conv => whnf)
    refine AW.pre tokT (fun _ => true) ?_; (conv => whnf)
    refine AW.pre tokT (fun _ => true) ?_; (conv => whnf)
    refine AW.pre tokT (fun _ => true) ?_; (conv => whnf)
    refine AW.pre tokT (fun _ => true) ?_; (conv => whnf)
    refine ev_sound tokT (keep := fun _ => true) ?_
    (conv => whnf)
    refine AC.frame (eval_b ⟨2, 2, 7, 3, delay, 0, List.replicate 32 0⟩ ⟨1, key, []⟩ ⟨seq, depth, 0⟩ (by simp)) [] (by (repeat' (exact True.intro))) (by rfl) (by (repeat' (first | exact True.intro | refine And.intro ?_ ?_))) (by rfl) ?_
    rintro r0 hp0 ⟨rfl, rfl⟩
    rw [e1]
    (conv => whnf)
    rw [hx]
    cases x with
    | true =>
      (conv => whnf)
      (try simp only [hx, hy, Bool.true_and, Bool.false_and, beq_self_eq_true, Bool.not_false])
      refine AC.frame (eval_b ⟨2, 2, 7, 3, delay, 0, List.replicate 32 0⟩ ⟨3, key, []⟩ ⟨seq, depth, 0⟩ (by simp)) [] (by (repeat' (exact True.intro))) (by rfl) (by (repeat' (first | exact True.intro | refine And.intro ?_ ?_))) (by rfl) ?_
      rintro r0 hp0 ⟨rfl, rfl⟩
      rw [e2]
      (conv => whnf); (try simp only [hx, hy, Bool.true_and, Bool.false_and, beq_self_eq_true, Bool.not_false]); (conv => whnf); (try simp only [hx, hy, Bool.true_and, Bool.false_and, beq_self_eq_true, Bool.not_false]); (conv => whnf)
      refine AC.frame (eval_b ⟨2, 2, 7, 3, delay, 0, List.replicate 32 0⟩ ⟨4, key, []⟩ ⟨seq, depth, 0⟩ (by simp)) [] (by (repeat' (exact True.intro))) (by rfl) (by (repeat' (first | exact True.intro | refine And.intro ?_ ?_))) (by rfl) ?_
      rintro r0 hp0 ⟨rfl, rfl⟩
      rw [e3]
      (conv => whnf); (try simp only [hx, hy, Bool.true_and, Bool.false_and, beq_self_eq_true, Bool.not_false]); (conv => whnf); (try simp only [hx, hy, Bool.true_and, Bool.false_and, beq_self_eq_true, Bool.not_false]); (conv => whnf)
      refine AC.frame (eval_b ⟨3, 2, 7, 3, 0, 0, List.replicate 32 0⟩ ⟨1, key, []⟩ ⟨seq, depth, 0⟩ (by simp)) [] (by (repeat' (exact True.intro))) (by rfl) (by (repeat' (first | exact True.intro | refine And.intro ?_ ?_))) (by rfl) ?_
      rintro r0 hp0 ⟨rfl, rfl⟩
      rw [e4]
      (conv => whnf); (try simp only [hx, hy, Bool.true_and, Bool.false_and, beq_self_eq_true, Bool.not_false]); (conv => whnf); (try simp only [hx, hy, Bool.true_and, Bool.false_and, beq_self_eq_true, Bool.not_false]); (conv => whnf)
      refine AC.frame (eval_b ⟨3, 2, 7, 3, 0, 0, List.replicate 32 0⟩ ⟨3, key, []⟩ ⟨seq, depth, 0⟩ (by simp)) [] (by (repeat' (exact True.intro))) (by rfl) (by (repeat' (first | exact True.intro | refine And.intro ?_ ?_))) (by rfl) ?_
      rintro r0 hp0 ⟨rfl, rfl⟩
      rw [e5]
      (conv => whnf); (try simp only [hx, hy, Bool.true_and, Bool.false_and, beq_self_eq_true, Bool.not_false]); (conv => whnf); (try simp only [hx, hy, Bool.true_and, Bool.false_and, beq_self_eq_true, Bool.not_false]); (conv => whnf)
      refine AC.frame (eval_b ⟨3, 2, 7, 3, 0, 0, List.replicate 32 0⟩ ⟨4, key, []⟩ ⟨seq, depth, 0⟩ (by simp)) [] (by (repeat' (exact True.intro))) (by rfl) (by (repeat' (first | exact True.intro | refine And.intro ?_ ?_))) (by rfl) ?_
      rintro r0 hp0 ⟨rfl, rfl⟩
      rw [e6]
      (conv => whnf); (try simp only [hx, hy, Bool.true_and, Bool.false_and, beq_self_eq_true, Bool.not_false]); (conv => whnf); (try simp only [hx, hy, Bool.true_and, Bool.false_and, beq_self_eq_true, Bool.not_false]); (conv => whnf)
      refine AC.frame (eval_b ⟨4, 2, 7, 3, 0, 0, List.replicate 32 0⟩ ⟨1, key, []⟩ ⟨seq, depth, 0⟩ (by simp)) [] (by (repeat' (exact True.intro))) (by rfl) (by (repeat' (first | exact True.intro | refine And.intro ?_ ?_))) (by rfl) ?_
      rintro r0 hp0 ⟨rfl, rfl⟩
      rw [e7]
      (conv => whnf); (try simp only [hx, hy, Bool.true_and, Bool.false_and, beq_self_eq_true, Bool.not_false]); (conv => whnf); (try simp only [hx, hy, Bool.true_and, Bool.false_and, beq_self_eq_true, Bool.not_false]); (conv => whnf)
      refine AC.frame (eval_b ⟨4, 2, 7, 3, 0, 0, List.replicate 32 0⟩ ⟨4, key, []⟩ ⟨seq, depth, 0⟩ (by simp)) [] (by (repeat' (exact True.intro))) (by rfl) (by (repeat' (first | exact True.intro | refine And.intro ?_ ?_))) (by rfl) ?_
      rintro r0 hp0 ⟨rfl, rfl⟩
      rw [e8]
      (conv => whnf); (try simp only [hx, hy, Bool.true_and, Bool.false_and, beq_self_eq_true, Bool.not_false]); (conv => whnf); (try simp only [hx, hy, Bool.true_and, Bool.false_and, beq_self_eq_true, Bool.not_false]); (conv => whnf)
      refine AC.frame (eval_b ⟨4, 2, 7, 3, 0, 0, List.replicate 32 0⟩ ⟨3, key, []⟩ ⟨seq, depth, 0⟩ (by simp)) [] (by (repeat' (exact True.intro))) (by rfl) (by (repeat' (first | exact True.intro | refine And.intro ?_ ?_))) (by rfl) ?_
      rintro r0 hp0 ⟨rfl, rfl⟩
      rw [e9]
      (conv => whnf); (try simp only [hx, hy, Bool.true_and, Bool.false_and, beq_self_eq_true, Bool.not_false]); (conv => whnf); (try simp only [hx, hy, Bool.true_and, Bool.false_and, beq_self_eq_true, Bool.not_false]); (conv => whnf)
      refine AC.pure awake13_ok (by (repeat' (exact True.intro))) (by (repeat' (exact True.intro))) ?_
      (conv => whnf); (refine Left.of [] (.bool true) [] (by rfl) (by rfl) (by rfl) (by (repeat' (exact True.intro))) (by rfl) (by (repeat' (exact True.intro))) ?_)
      exact ⟨rfl, rfl⟩
    | false =>
      (conv => whnf)
      (try simp only [hx, hy, Bool.true_and, Bool.false_and, beq_self_eq_true, Bool.not_false])
      refine AC.frame (eval_b ⟨2, 2, 7, 3, delay, 0, List.replicate 32 0⟩ ⟨3, key, []⟩ ⟨seq, depth, 0⟩ (by simp)) [] (by (repeat' (exact True.intro))) (by rfl) (by (repeat' (first | exact True.intro | refine And.intro ?_ ?_))) (by rfl) ?_
      rintro r0 hp0 ⟨rfl, rfl⟩
      rw [e2]
      (conv => whnf); (try simp only [hx, hy, Bool.true_and, Bool.false_and, beq_self_eq_true, Bool.not_false]); (conv => whnf); (try simp only [hx, hy, Bool.true_and, Bool.false_and, beq_self_eq_true, Bool.not_false]); (conv => whnf)
      refine AC.frame (eval_b ⟨2, 2, 7, 3, delay, 0, List.replicate 32 0⟩ ⟨4, key, []⟩ ⟨seq, depth, 0⟩ (by simp)) [] (by (repeat' (exact True.intro))) (by rfl) (by (repeat' (first | exact True.intro | refine And.intro ?_ ?_))) (by rfl) ?_
      rintro r0 hp0 ⟨rfl, rfl⟩
      rw [e3]
      (conv => whnf); (try simp only [hx, hy, Bool.true_and, Bool.false_and, beq_self_eq_true, Bool.not_false]); (conv => whnf); (try simp only [hx, hy, Bool.true_and, Bool.false_and, beq_self_eq_true, Bool.not_false]); (conv => whnf)
      refine AC.frame (eval_b ⟨3, 2, 7, 3, 0, 0, List.replicate 32 0⟩ ⟨1, key, []⟩ ⟨seq, depth, 0⟩ (by simp)) [] (by (repeat' (exact True.intro))) (by rfl) (by (repeat' (first | exact True.intro | refine And.intro ?_ ?_))) (by rfl) ?_
      rintro r0 hp0 ⟨rfl, rfl⟩
      rw [e4]
      (conv => whnf); (try simp only [hx, hy, Bool.true_and, Bool.false_and, beq_self_eq_true, Bool.not_false]); (conv => whnf); (try simp only [hx, hy, Bool.true_and, Bool.false_and, beq_self_eq_true, Bool.not_false]); (conv => whnf)
      refine AC.frame (eval_b ⟨3, 2, 7, 3, 0, 0, List.replicate 32 0⟩ ⟨3, key, []⟩ ⟨seq, depth, 0⟩ (by simp)) [] (by (repeat' (exact True.intro))) (by rfl) (by (repeat' (first | exact True.intro | refine And.intro ?_ ?_))) (by rfl) ?_
      rintro r0 hp0 ⟨rfl, rfl⟩
      rw [e5]
      (conv => whnf); (try simp only [hx, hy, Bool.true_and, Bool.false_and, beq_self_eq_true, Bool.not_false]); (conv => whnf); (try simp only [hx, hy, Bool.true_and, Bool.false_and, beq_self_eq_true, Bool.not_false]); (conv => whnf)
      refine AC.frame (eval_b ⟨3, 2, 7, 3, 0, 0, List.replicate 32 0⟩ ⟨4, key, []⟩ ⟨seq, depth, 0⟩ (by simp)) [] (by (repeat' (exact True.intro))) (by rfl) (by (repeat' (first | exact True.intro | refine And.intro ?_ ?_))) (by rfl) ?_
      rintro r0 hp0 ⟨rfl, rfl⟩
      rw [e6]
      (conv => whnf); (try simp only [hx, hy, Bool.true_and, Bool.false_and, beq_self_eq_true, Bool.not_false]); (conv => whnf); (try simp only [hx, hy, Bool.true_and, Bool.false_and, beq_self_eq_true, Bool.not_false]); (conv => whnf)
      refine AC.frame (eval_b ⟨4, 2, 7, 3, 0, 0, List.replicate 32 0⟩ ⟨1, key, []⟩ ⟨seq, depth, 0⟩ (by simp)) [] (by (repeat' (exact True.intro))) (by rfl) (by (repeat' (first | exact True.intro | refine And.intro ?_ ?_))) (by rfl) ?_
      rintro r0 hp0 ⟨rfl, rfl⟩
      rw [e7]
      (conv => whnf); (try simp only [hx, hy, Bool.true_and, Bool.false_and, beq_self_eq_true, Bool.not_false]); (conv => whnf); (try simp only [hx, hy, Bool.true_and, Bool.false_and, beq_self_eq_true, Bool.not_false]); (conv => whnf)
      refine AC.frame (eval_b ⟨4, 2, 7, 3, 0, 0, List.replicate 32 0⟩ ⟨4, key, []⟩ ⟨seq, depth, 0⟩ (by simp)) [] (by (repeat' (exact True.intro))) (by rfl) (by (repeat' (first | exact True.intro | refine And.intro ?_ ?_))) (by rfl) ?_
      rintro r0 hp0 ⟨rfl, rfl⟩
      rw [e8]
      (conv => whnf); (try simp only [hx, hy, Bool.true_and, Bool.false_and, beq_self_eq_true, Bool.not_false]); (conv => whnf); (try simp only [hx, hy, Bool.true_and, Bool.false_and, beq_self_eq_true, Bool.not_false]); (conv => whnf)
      refine AC.frame (eval_b ⟨4, 2, 7, 3, 0, 0, List.replicate 32 0⟩ ⟨3, key, []⟩ ⟨seq, depth, 0⟩ (by simp)) [] (by (repeat' (exact True.intro))) (by rfl) (by (repeat' (first | exact True.intro | refine And.intro ?_ ?_))) (by rfl) ?_
      rintro r0 hp0 ⟨rfl, rfl⟩
      rw [e9]
      (conv => whnf); (try simp only [hx, hy, Bool.true_and, Bool.false_and, beq_self_eq_true, Bool.not_false]); (conv => whnf); (try simp only [hx, hy, Bool.true_and, Bool.false_and, beq_self_eq_true, Bool.not_false]); (conv => whnf)
      refine AC.pure awake13_ok (by (repeat' (exact True.intro))) (by (repeat' (exact True.intro))) ?_
      (conv => whnf); (refine Left.of [] (.bool true) [] (by rfl) (by rfl) (by rfl) (by (repeat' (exact True.intro))) (by rfl) (by (repeat' (exact True.intro))) ?_)
      exact ⟨rfl, rfl⟩
end Go.Aw
