/-
  AwSc6: who is entitled; the law ScriptAsks. Own work.
-/
import Derived.Test.YtdababcblhbpeaaAwSc5
set_option linter.unusedVariables false
set_option linter.unusedSimpArgs false
set_option maxRecDepth 20000
open Go.Proofs
namespace Go.Aw

def sameB (s s' : Scr) : Bool := s.kind == s'.kind && (s.key == s'.key && (s.other == s'.other && (s.rev == s'.rev && (s.delay == s'.delay && (s.expiry == s'.expiry && (s.hash == s'.hash && true))))))
theorem same_ok (s s' : Scr) : AC Try.prog 42 [s.av, s'.av] [] (fun r hp' => r = .bool (sameB s s') ∧ hp' = []) := by
  refine AC.left (AC.body tokT Try.func42 rfl rfl rfl (by decide) (by rfl) ?_)
  refine AW.pre tokT (fun _ => true) ?_; (conv => whnf)
  refine ev_sound tokT (keep := fun _ => true) ?_
  (conv => whnf)
  (refine Left.of [] (.bool (sameB s s')) [] (by rfl) (by rfl) (by rfl) (by (repeat' (exact True.intro))) (by rfl) (by (repeat' (exact True.intro))) ?_)
  exact ⟨rfl, rfl⟩

/-- is the node entitled to what a witness shows? -/
def Ent3 (s : Scr) (k : Keys3) (w : Wit) : Prop := w.kind ≠ 4 ∧ w.key = (if w.kind = 3 then k.rev else if s.kind = 1 then k.wallet else k.own) ∧ Evs s w ⟨4611686018427387904, 4611686018427387904, 4611686018427387904⟩
instance (s : Scr) (k : Keys3) (w : Wit) : Decidable (Ent3 s k w) := by unfold Ent3; infer_instance
@[irreducible] def entB (s : Scr) (k : Keys3) (w : Wit) : Bool := decide (Ent3 s k w)
theorem entB_true {s : Scr} {k : Keys3} {w : Wit} : entB s k w = true ↔ Ent3 s k w := by unfold entB; exact iff_of_eq (decide_eq_true_eq)
theorem entB_no {s : Scr} {k : Keys3} {w : Wit} : entB s k w = false ↔ ¬ Ent3 s k w := by rw [← entB_true]; simp
theorem ent_is {s : Scr} {k : Keys3} {w : Wit} {X : Bool} (h : X = true ↔ Ent3 s k w) : AV.bool X = AV.bool (entB s k w) := congrArg AV.bool (by rw [Bool.eq_iff_iff, h, entB_true])

set_option maxHeartbeats 1000000 in
theorem ent_ok (s : Scr) (k : Keys3) (w : Wit) (hl : w.pre.length ≤ 4294967296) : AC Try.prog 40 [s.av, k.av, w.av] [] (fun r hp' => r = .bool (entB s k w) ∧ hp' = []) := by
  refine AC.left (AC.body tokT Try.func40 rfl rfl rfl (by decide) (by rfl) ?_)
  refine AW.pre tokT (fun _ => true) ?_; (conv => whnf)
  refine AW.pre tokT (fun _ => true) ?_; (conv => whnf)
  refine AW.cutT (fun fr hp => w.kind ≠ 4 ∧ fr = [(3, .ptr 0 0 0 0), (5, .ptr 1 0 0 0), (7, .int .i64 (if w.kind = 3 then k.rev else if s.kind = 1 then k.wallet else k.own))] ∧ hp = [⟨38, false, none, .var s.segs⟩, ⟨3, false, none, .var w.segs⟩]) ?_ ?_
  · refine ev_sound tokT (keep := fun _ => true) ?_
    (conv => whnf); (cases g1 : (w.kind == 4 : Bool) <;> (try simp only [beq_iff_eq, beq_eq_false_iff_ne, ne_eq, decide_eq_true_eq, decide_eq_false_iff_not, bne_iff_ne, bne_eq_false_iff_eq, Bool.not_eq_true, Bool.not_eq_false, gt_iff_lt, ge_iff_le] at g1) <;> (try (exfalso; omega)))
    case' true =>
      (conv => whnf); (refine Left.of [] (.bool false) [] (by rfl) (by rfl) (by rfl) (by (repeat' (exact True.intro))) (by rfl) (by (repeat' (exact True.intro))) ?_)
      exact ⟨ent_is ⟨fun h => by simp at h, fun h => absurd g1 h.1⟩, rfl⟩
    (conv => whnf); (cases g2 : (w.kind == 3 : Bool) <;> (try simp only [beq_iff_eq, beq_eq_false_iff_ne, ne_eq, decide_eq_true_eq, decide_eq_false_iff_not, bne_iff_ne, bne_eq_false_iff_eq, Bool.not_eq_true, Bool.not_eq_false, gt_iff_lt, ge_iff_le] at g2) <;> (try (exfalso; omega)))
    case' true =>
      (conv => whnf)
      (refine Turned.of [0, 2] [(3, .ptr 0 0 0 0), (5, .ptr 1 0 0 0), (7, .int .i64 k.rev)] [⟨38, false, none, .var s.segs⟩, ⟨3, false, none, .var w.segs⟩] (by rfl) (by rfl) (by rfl) (by (repeat' (first | exact True.intro | exact rfl | refine And.intro ?_ ?_ | (simp [AV.ren, AV.rens, AObj.ren, Ent.ren, AV.inn, AV.inns, AObj.inn, *]; done)))) (by (repeat' (first | exact True.intro | exact rfl | refine And.intro ?_ ?_ | (simp [AV.ren, AV.rens, AObj.ren, Ent.ren, AV.inn, AV.inns, AObj.inn, *]; done)))) ?_)
      exact ⟨g1, by rw [if_pos g2], rfl⟩
    (conv => whnf); (cases g3 : (s.kind == 1 : Bool) <;> (try simp only [beq_iff_eq, beq_eq_false_iff_ne, ne_eq, decide_eq_true_eq, decide_eq_false_iff_not, bne_iff_ne, bne_eq_false_iff_eq, Bool.not_eq_true, Bool.not_eq_false, gt_iff_lt, ge_iff_le] at g3) <;> (try (exfalso; omega)))
    case' true =>
      (conv => whnf)
      (refine Turned.of [0, 2] [(3, .ptr 0 0 0 0), (5, .ptr 1 0 0 0), (7, .int .i64 k.wallet)] [⟨38, false, none, .var s.segs⟩, ⟨3, false, none, .var w.segs⟩] (by rfl) (by rfl) (by rfl) (by (repeat' (first | exact True.intro | exact rfl | refine And.intro ?_ ?_ | (simp [AV.ren, AV.rens, AObj.ren, Ent.ren, AV.inn, AV.inns, AObj.inn, *]; done)))) (by (repeat' (first | exact True.intro | exact rfl | refine And.intro ?_ ?_ | (simp [AV.ren, AV.rens, AObj.ren, Ent.ren, AV.inn, AV.inns, AObj.inn, *]; done)))) ?_)
      exact ⟨g1, by rw [if_neg g2, if_pos g3], rfl⟩
    (conv => whnf)
    (refine Turned.of [0, 2] [(3, .ptr 0 0 0 0), (5, .ptr 1 0 0 0), (7, .int .i64 k.own)] [⟨38, false, none, .var s.segs⟩, ⟨3, false, none, .var w.segs⟩] (by rfl) (by rfl) (by rfl) (by (repeat' (first | exact True.intro | exact rfl | refine And.intro ?_ ?_ | (simp [AV.ren, AV.rens, AObj.ren, Ent.ren, AV.inn, AV.inns, AObj.inn, *]; done)))) (by (repeat' (first | exact True.intro | exact rfl | refine And.intro ?_ ?_ | (simp [AV.ren, AV.rens, AObj.ren, Ent.ren, AV.inn, AV.inns, AObj.inn, *]; done)))) ?_)
    exact ⟨g1, by rw [if_neg g2, if_neg g3], rfl⟩
  · rintro fr hp ⟨h4, rfl, rfl⟩
    obtain ⟨K, hK⟩ : ∃ K, (if w.kind = 3 then k.rev else if s.kind = 1 then k.wallet else k.own) = K := ⟨_, rfl⟩
    rw [hK]
    refine ev_sound tokT (keep := fun _ => true) ?_
    (conv => whnf); (cases g1 : (w.key == K : Bool) <;> (try simp only [beq_iff_eq, beq_eq_false_iff_ne, ne_eq, decide_eq_true_eq, decide_eq_false_iff_not, bne_iff_ne, bne_eq_false_iff_eq, Bool.not_eq_true, Bool.not_eq_false, gt_iff_lt, ge_iff_le] at g1) <;> (try (exfalso; omega)))
    case' false =>
      (conv => whnf); (refine Left.of [] (.bool false) [] (by rfl) (by rfl) (by rfl) (by (repeat' (exact True.intro))) (by rfl) (by (repeat' (exact True.intro))) ?_)
      exact ⟨ent_is ⟨fun h => by simp at h, fun h => absurd (h.2.1.trans hK) g1⟩, rfl⟩
    (conv => whnf)
    refine AC.frame (eval_b s w ⟨4611686018427387904, 4611686018427387904, 4611686018427387904⟩ hl) [] (by (repeat' (exact True.intro))) (by rfl) (by (repeat' (first | exact True.intro | refine And.intro ?_ ?_))) (by rfl) ?_
    rintro r0 hp0 ⟨rfl, rfl⟩
    (conv => whnf)
    (refine Left.of [] (.bool (evB s w ⟨4611686018427387904, 4611686018427387904, 4611686018427387904⟩)) [] (by rfl) (by rfl) (by rfl) (by (repeat' (exact True.intro))) (by rfl) (by (repeat' (exact True.intro))) ?_)
    exact ⟨ent_is ⟨fun h => ⟨h4, g1.trans hK.symm, evB_true.1 h⟩, fun h => evB_true.2 h.2.2⟩, rfl⟩

/-- far off is far off: the second reading's bounds say the same -/
theorem evs_far {s : Scr} {w : Wit} : Evs s w ⟨65535, 1099511627776, 1000000⟩ ↔ Evs s w ⟨4611686018427387904, 4611686018427387904, 4611686018427387904⟩ := by
  unfold Evs
  constructor
  all_goals
    rintro ⟨hok, h⟩
    have h' := hok
    unfold Scr.ok at h'
    refine ⟨hok, ?_⟩
    simp only at h ⊢
    rcases h with ⟨a, h⟩ | ⟨a, h | h⟩ | ⟨a, h⟩ | ⟨a, h | h⟩ | ⟨a, h | h | h⟩ | ⟨a, h | h | h⟩
    · exact .inl ⟨a, h⟩
    · exact .inr (.inl ⟨a, .inl ⟨h.1, h.2.1, by omega, by omega⟩⟩)
    · exact .inr (.inl ⟨a, .inr h⟩)
    · exact .inr (.inr (.inl ⟨a, h.1, h.2.1, by omega, by omega⟩))
    · exact .inr (.inr (.inr (.inl ⟨a, .inl h⟩)))
    · exact .inr (.inr (.inr (.inl ⟨a, .inr ⟨h.1, by omega, by omega⟩⟩)))
    · exact .inr (.inr (.inr (.inr (.inl ⟨a, .inl ⟨h.1, h.2.1, by omega⟩⟩))))
    · exact .inr (.inr (.inr (.inr (.inl ⟨a, .inr (.inl h)⟩))))
    · exact .inr (.inr (.inr (.inr (.inl ⟨a, .inr (.inr h)⟩))))
    · exact .inr (.inr (.inr (.inr (.inr ⟨a, .inl h⟩))))
    · exact .inr (.inr (.inr (.inr (.inr ⟨a, .inr (.inl ⟨h.1, h.2.1, by omega⟩)⟩))))
    · exact .inr (.inr (.inr (.inr (.inr ⟨a, .inr (.inr h)⟩))))

set_option maxHeartbeats 1000000 in
theorem refent_ok (s : Scr) (k : Keys3) (w : Wit) (hl : w.pre.length ≤ 4294967296) : AC Try.prog 41 [s.av, k.av, w.av] [] (fun r hp' => r = .bool (entB s k w) ∧ hp' = []) := by
  refine AC.left (AC.body tokT Try.func41 rfl rfl rfl (by decide) (by rfl) ?_)
  refine AW.pre tokT (fun _ => true) ?_; (conv => whnf)
  refine AW.cutT (fun fr hp => (w.kind ≠ 4 ∧ Evs s w ⟨65535, 1099511627776, 1000000⟩) ∧ fr = [(3, .ptr 0 0 0 0), (4, .ptr 1 0 0 0), (5, .ptr 2 0 0 0)] ∧ hp = [⟨38, false, none, .var s.segs⟩, ⟨3, false, none, .var [.int .i64 k.wallet, .int .i64 k.own, .int .i64 k.rev]⟩, ⟨3, false, none, .var w.segs⟩]) ?_ ?_
  · refine ev_sound tokT (keep := fun _ => true) ?_
    (conv => whnf); (cases g1 : (w.kind == 4 : Bool) <;> (try simp only [beq_iff_eq, beq_eq_false_iff_ne, ne_eq, decide_eq_true_eq, decide_eq_false_iff_not, bne_iff_ne, bne_eq_false_iff_eq, Bool.not_eq_true, Bool.not_eq_false, gt_iff_lt, ge_iff_le] at g1) <;> (try (exfalso; omega)))
    case' true =>
      (conv => whnf); (refine Left.of [] (.bool false) [] (by rfl) (by rfl) (by rfl) (by (repeat' (exact True.intro))) (by rfl) (by (repeat' (exact True.intro))) ?_)
      exact ⟨ent_is ⟨fun h => by simp at h, fun h => absurd g1 h.1⟩, rfl⟩
    (conv => whnf)
    refine AC.frame (refeval_b s w ⟨65535, 1099511627776, 1000000⟩ hl) [] (by (repeat' (exact True.intro))) (by rfl) (by (repeat' (first | exact True.intro | refine And.intro ?_ ?_))) (by rfl) ?_
    rintro r0 hp0 ⟨rfl, rfl⟩
    (conv => whnf); (cases g2 : (evB s w (Ctx3.mk 65535 1099511627776 1000000) : Bool) <;> (try simp only [beq_iff_eq, beq_eq_false_iff_ne, ne_eq, decide_eq_true_eq, decide_eq_false_iff_not, bne_iff_ne, bne_eq_false_iff_eq, Bool.not_eq_true, Bool.not_eq_false, gt_iff_lt, ge_iff_le] at g2) <;> (try (exfalso; omega)))
    case' false =>
      (conv => whnf); (refine Left.of [] (.bool false) [] (by rfl) (by rfl) (by rfl) (by (repeat' (exact True.intro))) (by rfl) (by (repeat' (exact True.intro))) ?_)
      exact ⟨ent_is ⟨fun h => by simp at h, fun h => absurd (evs_far.2 h.2.2) (evB_no.1 g2)⟩, rfl⟩
    (conv => whnf)
    (refine Turned.of [0, 1, 2] [(3, .ptr 0 0 0 0), (4, .ptr 1 0 0 0), (5, .ptr 2 0 0 0)] [⟨38, false, none, .var s.segs⟩, ⟨3, false, none, .var [.int .i64 k.wallet, .int .i64 k.own, .int .i64 k.rev]⟩, ⟨3, false, none, .var w.segs⟩] (by rfl) (by rfl) (by rfl) (by (repeat' (first | exact True.intro | exact rfl | refine And.intro ?_ ?_ | (simp [AV.ren, AV.rens, AObj.ren, Ent.ren, AV.inn, AV.inns, AObj.inn, *]; done)))) (by (repeat' (first | exact True.intro | exact rfl | refine And.intro ?_ ?_ | (simp [AV.ren, AV.rens, AObj.ren, Ent.ren, AV.inn, AV.inns, AObj.inn, *]; done)))) ?_)
    exact ⟨⟨g1, evB_true.1 g2⟩, rfl, rfl⟩
  · rintro fr hp ⟨⟨h4, hE⟩, rfl, rfl⟩
    have hE := evs_far.1 hE
    refine ev_sound tokT (keep := fun _ => true) ?_
    (conv => whnf); (cases g1 : (w.kind == 3 : Bool) <;> (try simp only [beq_iff_eq, beq_eq_false_iff_ne, ne_eq, decide_eq_true_eq, decide_eq_false_iff_not, bne_iff_ne, bne_eq_false_iff_eq, Bool.not_eq_true, Bool.not_eq_false, gt_iff_lt, ge_iff_le] at g1) <;> (try (exfalso; omega)))
    case' true =>
      (conv => whnf); (refine Left.of [] (.bool (w.key == k.rev)) [] (by rfl) (by rfl) (by rfl) (by (repeat' (exact True.intro))) (by rfl) (by (repeat' (exact True.intro))) ?_)
      exact ⟨ent_is ⟨fun h => ⟨h4, by rw [if_pos g1]; exact beq_iff_eq.1 h, hE⟩, fun h => beq_iff_eq.2 (by have := h.2.1; rw [if_pos g1] at this; exact this)⟩, rfl⟩
    (conv => whnf); (cases g2 : (s.kind == 1 : Bool) <;> (try simp only [beq_iff_eq, beq_eq_false_iff_ne, ne_eq, decide_eq_true_eq, decide_eq_false_iff_not, bne_iff_ne, bne_eq_false_iff_eq, Bool.not_eq_true, Bool.not_eq_false, gt_iff_lt, ge_iff_le] at g2) <;> (try (exfalso; omega)))
    case' true =>
      (conv => whnf); (refine Left.of [] (.bool (w.key == k.wallet)) [] (by rfl) (by rfl) (by rfl) (by (repeat' (exact True.intro))) (by rfl) (by (repeat' (exact True.intro))) ?_)
      exact ⟨ent_is ⟨fun h => ⟨h4, by rw [if_neg g1, if_pos g2]; exact beq_iff_eq.1 h, hE⟩, fun h => beq_iff_eq.2 (by have := h.2.1; rw [if_neg g1, if_pos g2] at this; exact this)⟩, rfl⟩
    (conv => whnf)
    (refine Left.of [] (.bool (w.key == k.own)) [] (by rfl) (by rfl) (by rfl) (by (repeat' (exact True.intro))) (by rfl) (by (repeat' (exact True.intro))) ?_)
    exact ⟨ent_is ⟨fun h => ⟨h4, by rw [if_neg g1, if_neg g2]; exact beq_iff_eq.1 h, hE⟩, fun h => beq_iff_eq.2 (by have := h.2.1; rw [if_neg g1, if_neg g2] at this; exact this)⟩, rfl⟩

set_option maxHeartbeats 2000000 in
theorem asks_law (s s' : Scr) (w : Wit) (c : Ctx3) (k : Keys3) (key : Int) : AC Try.prog 11 [s.av, s'.av, w.av, c.av, k.av, .int .i64 key] [] (fun r hp' => r = .bool true ∧ hp' = []) := by
  refine AC.left (AC.body tokT Try.func11 rfl rfl rfl (by decide) (by rfl) ?_)
  refine AW.pre tokT (fun _ => true) ?_; (conv => whnf)
  refine AW.cutT (fun fr hp => w.pre.length ≤ 200 ∧ fr = [(5, .int .i64 key), (6, .ptr 0 0 0 0), (7, .ptr 1 0 0 0), (8, .ptr 2 0 0 0), (9, .ptr 3 0 0 0), (10, .ptr 4 0 0 0)] ∧ hp = [⟨38, false, none, .var s.segs⟩, ⟨38, false, none, .var s'.segs⟩, ⟨3, false, none, .var w.segs⟩, ⟨3, false, none, .var c.segs⟩, ⟨3, false, none, .var [.int .i64 k.wallet, .int .i64 k.own, .int .i64 k.rev]⟩]) ?_ ?_
  · refine ev_sound tokT (keep := fun _ => true) ?_
    (conv => whnf); (cases g : (decide ((↑w.pre.length : Int) > 200) : Bool) <;> (try simp only [beq_iff_eq, beq_eq_false_iff_ne, ne_eq, decide_eq_true_eq, decide_eq_false_iff_not, bne_iff_ne, bne_eq_false_iff_eq, Bool.not_eq_true, Bool.not_eq_false, gt_iff_lt, ge_iff_le] at g) <;> (try (exfalso; omega)))
    case' true =>
      (conv => whnf)
      refine AC.pure awake13_ok (by (repeat' (exact True.intro))) (by (repeat' (exact True.intro))) ?_
      (conv => whnf); (refine Left.of [] (.bool true) [] (by rfl) (by rfl) (by rfl) (by (repeat' (exact True.intro))) (by rfl) (by (repeat' (exact True.intro))) ?_)
      exact ⟨rfl, rfl⟩
    (conv => whnf)
    (refine Turned.of [0, 1, 2, 3, 4] [(5, .int .i64 key), (6, .ptr 0 0 0 0), (7, .ptr 1 0 0 0), (8, .ptr 2 0 0 0), (9, .ptr 3 0 0 0), (10, .ptr 4 0 0 0)] [⟨38, false, none, .var s.segs⟩, ⟨38, false, none, .var s'.segs⟩, ⟨3, false, none, .var w.segs⟩, ⟨3, false, none, .var c.segs⟩, ⟨3, false, none, .var [.int .i64 k.wallet, .int .i64 k.own, .int .i64 k.rev]⟩] (by rfl) (by rfl) (by rfl) (by (repeat' (first | exact True.intro | exact rfl | refine And.intro ?_ ?_ | (simp [AV.ren, AV.rens, AObj.ren, Ent.ren, AV.inn, AV.inns, AObj.inn, *]; done)))) (by (repeat' (first | exact True.intro | exact rfl | refine And.intro ?_ ?_ | (simp [AV.ren, AV.rens, AObj.ren, Ent.ren, AV.inn, AV.inns, AObj.inn, *]; done)))) ?_)
    exact ⟨by omega, rfl, rfl⟩
  · rintro fr hp ⟨hl, rfl, rfl⟩
    obtain ⟨E, hE⟩ : ∃ E, evB s w c = E := ⟨_, rfl⟩
    obtain ⟨N, hN⟩ : ∃ N, entB s k w = N := ⟨_, rfl⟩
    obtain ⟨V, hV⟩ : ∃ V, okB s = V := ⟨_, rfl⟩
    obtain ⟨S, hS⟩ : ∃ S, sameB s s' = S := ⟨_, rfl⟩
    refine AW.seq (AW.draw [(false, 0), (false, 2), (true, 1), (true, 3), (false, 4), (false, 5), (false, 6), (false, 7), (false, 8), (false, 10), (false, 11), (false, 12), (true, 9), (true, 13), (true, 14), (false, 15), (false, 16), (false, 17), (false, 18), (false, 19), (false, 20), (false, 22), (false, 23), (false, 24), (true, 21), (true, 25), (false, 26), (false, 27), (false, 28), (false, 29), (false, 30), (false, 32), (false, 33), (false, 34), (true, 31), (false, 35), (false, 36), (false, 37), (false, 38), (false, 40), (false, 41), (true, 39), (false, 42), (false, 43), (false, 44), (false, 45), (false, 46), (false, 48), (false, 49), (true, 47), (true, 50), (false, 51), (false, 52), (false, 53), (true, 54), (false, 55), (false, 56)] (keep := fun _ => true) mixed_okS tokT (by kernel_rfl) (by kernel_rfl) ?_)
    ((conv => whnf); (repeat (((refine Exists.intro _ (And.intro (by ((conv => whnf); (repeat ((refine And.intro (by exact rfl) ?_); (conv => whnf))))) ?_)); (conv => whnf)))))
    refine AC.frame (valid_b s) [] (by (repeat' (exact True.intro))) (by rfl) (by (repeat' (first | exact True.intro | refine And.intro ?_ ?_))) (by rfl) ?_
    rintro r0 hp0 ⟨rfl, rfl⟩
    rw [hV]; ((conv => whnf); (repeat (((with_reducible (refine And.intro (show Go.Aw.againsK _ _ _ _ _ from ?_) ?_)); (focus (repeat' (first | ((with_reducible (show Go.Aw.againsK _ _ _ _ _)); (conv => whnf)) | ((with_reducible (show Go.Aw.againK _ _ _ _ _)); (conv => whnf)) | (with_reducible (exact True.intro)) | (with_reducible (refine And.intro ?_ ?_)) | exact rfl))); (conv => whnf)))))
    refine AC.frame (refvalid_b s) [] (by (repeat' (exact True.intro))) (by rfl) (by (repeat' (first | exact True.intro | refine And.intro ?_ ?_))) (by rfl) ?_
    rintro r0 hp0 ⟨rfl, rfl⟩
    rw [hV]; ((conv => whnf); (repeat (first | ((with_reducible (refine And.intro (show Go.Aw.againsK _ _ _ _ _ from ?_) ?_)); (focus (repeat' (first | ((with_reducible (show Go.Aw.againsK _ _ _ _ _)); (conv => whnf)) | (with_reducible (exact True.intro))))); (conv => whnf)) | ((refine Exists.intro _ (And.intro (by ((conv => whnf); (repeat ((refine And.intro (by exact rfl) ?_); (conv => whnf))))) ?_)); (conv => whnf)))))
    rw [beq_self_eq_true]; ((conv => whnf); (repeat (((refine Exists.intro _ (And.intro (by ((conv => whnf); (repeat ((refine And.intro (by exact rfl) ?_); (conv => whnf))))) ?_)); (conv => whnf)))))
    refine AC.frame (eval_b s w c (by omega)) [] (by (repeat' (exact True.intro))) (by rfl) (by (repeat' (first | exact True.intro | refine And.intro ?_ ?_))) (by rfl) ?_
    rintro r0 hp0 ⟨rfl, rfl⟩
    rw [hE]; ((conv => whnf); (repeat (((with_reducible (refine And.intro (show Go.Aw.againsK _ _ _ _ _ from ?_) ?_)); (focus (repeat' (first | ((with_reducible (show Go.Aw.againsK _ _ _ _ _)); (conv => whnf)) | ((with_reducible (show Go.Aw.againK _ _ _ _ _)); (conv => whnf)) | (with_reducible (exact True.intro)) | (with_reducible (refine And.intro ?_ ?_)) | exact rfl | (simp; done)))); (conv => whnf)))))
    refine AC.frame (ctx_ok c) [] (by (repeat' (exact True.intro))) (by rfl) (by (repeat' (first | exact True.intro | refine And.intro ?_ ?_))) (by rfl) ?_
    rintro r0 hp0 ⟨rfl, rfl⟩
    ((conv => whnf); (repeat (((with_reducible (refine And.intro (show Go.Aw.againsK _ _ _ _ _ from ?_) ?_)); (focus (repeat' (first | ((with_reducible (show Go.Aw.againsK _ _ _ _ _)); (conv => whnf)) | ((with_reducible (show Go.Aw.againK _ _ _ _ _)); (conv => whnf)) | (with_reducible (exact True.intro)) | (with_reducible (refine And.intro ?_ ?_)) | exact rfl | (simp; done)))); (conv => whnf)))))
    refine AC.frame (refeval_b s w c (by omega)) [] (by (repeat' (exact True.intro))) (by rfl) (by (repeat' (first | exact True.intro | refine And.intro ?_ ?_))) (by rfl) ?_
    rintro r0 hp0 ⟨rfl, rfl⟩
    rw [hE]; ((conv => whnf); (repeat (first | ((with_reducible (refine And.intro (show Go.Aw.againsK _ _ _ _ _ from ?_) ?_)); (focus (repeat' (first | ((with_reducible (show Go.Aw.againsK _ _ _ _ _)); (conv => whnf)) | ((with_reducible (show Go.Aw.againK _ _ _ _ _)); (conv => whnf)) | (with_reducible (exact True.intro)) | (with_reducible (refine And.intro ?_ ?_)) | exact rfl | (simp; done)))); (conv => whnf)) | ((refine Exists.intro _ (And.intro (by ((conv => whnf); (repeat ((refine And.intro (by exact rfl) ?_); (conv => whnf))))) ?_)); (conv => whnf)))))
    rw [beq_self_eq_true]; ((conv => whnf); (repeat (((refine Exists.intro _ (And.intro (by ((conv => whnf); (repeat ((refine And.intro (by exact rfl) ?_); (conv => whnf))))) ?_)); (conv => whnf)))))
    refine AC.frame (ent_ok s k w (by omega)) [] (by (repeat' (exact True.intro))) (by rfl) (by (repeat' (first | exact True.intro | refine And.intro ?_ ?_))) (by rfl) ?_
    rintro r0 hp0 ⟨rfl, rfl⟩
    rw [hN]; ((conv => whnf); (repeat (((with_reducible (refine And.intro (show Go.Aw.againsK _ _ _ _ _ from ?_) ?_)); (focus (repeat' (first | ((with_reducible (show Go.Aw.againsK _ _ _ _ _)); (conv => whnf)) | ((with_reducible (show Go.Aw.againK _ _ _ _ _)); (conv => whnf)) | (with_reducible (exact True.intro)) | (with_reducible (refine And.intro ?_ ?_)) | exact rfl | (simp; done)))); (conv => whnf)))))
    refine AC.frame (refent_ok s k w (by omega)) [] (by (repeat' (exact True.intro))) (by rfl) (by (repeat' (first | exact True.intro | refine And.intro ?_ ?_))) (by rfl) ?_
    rintro r0 hp0 ⟨rfl, rfl⟩
    rw [hN]; ((conv => whnf); (repeat (first | ((with_reducible (refine And.intro (show Go.Aw.againsK _ _ _ _ _ from ?_) ?_)); (focus (repeat' (first | ((with_reducible (show Go.Aw.againsK _ _ _ _ _)); (conv => whnf)) | ((with_reducible (show Go.Aw.againK _ _ _ _ _)); (conv => whnf)) | (with_reducible (exact True.intro)) | (with_reducible (refine And.intro ?_ ?_)) | exact rfl | (simp; done)))); (conv => whnf)) | ((refine Exists.intro _ (And.intro (by ((conv => whnf); (repeat ((refine And.intro (by exact rfl) ?_); (conv => whnf))))) ?_)); (conv => whnf)))))
    rw [beq_self_eq_true]; ((conv => whnf); (repeat (((refine Exists.intro _ (And.intro (by ((conv => whnf); (repeat ((refine And.intro (by exact rfl) ?_); (conv => whnf))))) ?_)); (conv => whnf)))))
    refine AC.frame (same_ok s s') [] (by (repeat' (exact True.intro))) (by rfl) (by (repeat' (first | exact True.intro | refine And.intro ?_ ?_))) (by rfl) ?_
    rintro r0 hp0 ⟨rfl, rfl⟩
    ((conv => whnf); (repeat (first | ((with_reducible (refine And.intro (show Go.Aw.againsK _ _ _ _ _ from ?_) ?_)); (focus (repeat' (first | ((with_reducible (show Go.Aw.againsK _ _ _ _ _)); (conv => whnf)) | ((with_reducible (show Go.Aw.againK _ _ _ _ _)); (conv => whnf)) | (with_reducible (exact True.intro)) | (with_reducible (refine And.intro ?_ ?_)) | exact rfl | (simp; done)))); (conv => whnf)) | ((refine Exists.intro _ (And.intro (by ((conv => whnf); (repeat ((refine And.intro (by exact rfl) ?_); (conv => whnf))))) ?_)); (conv => whnf)))))
    unfold sameB; rw [beq_self_eq_true]; ((conv => whnf); (repeat (((refine Exists.intro _ (And.intro (by ((conv => whnf); (repeat ((refine And.intro (by exact rfl) ?_); (conv => whnf))))) ?_)); (conv => whnf)))))
    refine AC.frame (pay_ok key) [] (by (repeat' (exact True.intro))) (by rfl) (by (repeat' (first | exact True.intro | refine And.intro ?_ ?_))) (by rfl) ?_
    rintro r0 hp0 ⟨rfl, rfl⟩
    ((conv => whnf); (repeat (first | ((with_reducible (refine And.intro (show Go.Aw.againsK _ _ _ _ _ from ?_) ?_)); (focus (repeat' (first | ((with_reducible (show Go.Aw.againsK _ _ _ _ _)); (conv => whnf)) | ((with_reducible (show Go.Aw.againK _ _ _ _ _)); (conv => whnf)) | (with_reducible (exact True.intro)) | (with_reducible (refine And.intro ?_ ?_)) | exact rfl | (simp; done)))); (conv => whnf)) | ((refine Exists.intro _ (And.intro (by ((conv => whnf); (repeat ((refine And.intro (by exact rfl) ?_); (conv => whnf))))) ?_)); (conv => whnf)))))
    rw [show (key == key) = true from beq_self_eq_true key]; ((conv => whnf); (repeat (((refine Exists.intro _ (And.intro (by ((conv => whnf); (repeat ((refine And.intro (by exact rfl) ?_); (conv => whnf))))) ?_)); (conv => whnf)))))
    refine AC.frame (image_ok w.pre (by omega)) [] (by (repeat' (exact True.intro))) (by rfl) (by (repeat' (first | exact True.intro | refine And.intro ?_ ?_))) (by rfl) ?_
    rintro r0 hp0 ⟨rfl, rfl⟩
    ((conv => whnf); (repeat (((with_reducible (refine And.intro (show Go.Aw.againsK _ _ _ _ _ from ?_) ?_)); (focus (repeat' (first | ((with_reducible (show Go.Aw.againsK _ _ _ _ _)); (conv => whnf)) | ((with_reducible (show Go.Aw.againK _ _ _ _ _)); (conv => whnf)) | (with_reducible (exact True.intro)) | (with_reducible (refine And.intro ?_ ?_)) | exact rfl | (simp; done)))); (conv => whnf)))))
    refine AC.frame (refimage_ok w.pre (by omega)) [] (by (repeat' (exact True.intro))) (by rfl) (by (repeat' (first | exact True.intro | refine And.intro ?_ ?_))) (by rfl) ?_
    rintro r0 hp0 ⟨rfl, rfl⟩
    ((conv => whnf); (repeat (first | ((with_reducible (refine And.intro (show Go.Aw.againsK _ _ _ _ _ from ?_) ?_)); (focus (repeat' (first | ((with_reducible (show Go.Aw.againsK _ _ _ _ _)); (conv => whnf)) | ((with_reducible (show Go.Aw.againK _ _ _ _ _)); (conv => whnf)) | (with_reducible (exact True.intro)) | (with_reducible (refine And.intro ?_ ?_)) | exact rfl | (simp; done)))); (conv => whnf)) | ((refine Exists.intro _ (And.intro (by ((conv => whnf); (repeat ((refine And.intro (by exact rfl) ?_); (conv => whnf))))) ?_)); (conv => whnf)))))
    rw [show (shaL (bytesOfStr w.pre) == shaL (bytesOfStr w.pre)) = true by simp]
    (conv => whnf)
    refine AC.frame awake13_ok [] (by (repeat' (exact True.intro))) (by rfl) (by (repeat' (exact True.intro))) (by rfl) ?_
    rintro r0 hp0 ⟨rfl, rfl⟩
    ((conv => whnf); (repeat (first | ((with_reducible (refine And.intro (show Go.Aw.againsK _ _ _ _ _ from ?_) ?_)); (focus (repeat' (first | ((with_reducible (show Go.Aw.againsK _ _ _ _ _)); (conv => whnf)) | ((with_reducible (show Go.Aw.againK _ _ _ _ _)); (conv => whnf)) | (with_reducible (exact True.intro)) | (with_reducible (refine And.intro ?_ ?_)) | exact rfl | (simp; done)))); (conv => whnf)) | ((refine Exists.intro _ (And.intro (by ((conv => whnf); (repeat ((refine And.intro (by exact rfl) ?_); (conv => whnf))))) ?_)); (conv => whnf)))))
    refine ev_sound tokT (keep := fun _ => true) ?_
    (conv => whnf)
    (refine Left.of [] (.bool true) [] (by rfl) (by rfl) (by rfl) (by (repeat' (exact True.intro))) (by rfl) (by (repeat' (exact True.intro))) ?_)
    exact ⟨rfl, rfl⟩
end Go.Aw
