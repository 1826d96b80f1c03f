/-
  AwSc4: the law ScriptGrows. Own work.
-/
import Derived.Test.YtdababcblhbpeaaAwSc3
set_option linter.unusedVariables false
set_option linter.unusedSimpArgs false
set_option maxRecDepth 20000
open Go.Proofs
namespace Go.Aw

abbrev Ctx3.segs (c : Ctx3) : List AV := [.int .i64 c.seq, .int .i64 c.depth, .int .i64 c.lock]
def maxC (c d : Ctx3) : Ctx3 := ⟨if d.seq > c.seq then d.seq else c.seq, if d.depth > c.depth then d.depth else c.depth, if d.lock > c.lock then d.lock else c.lock⟩
theorem evs_grow {s : Scr} {w : Wit} {c d : Ctx3} (h : Evs s w c) : Evs s w (maxC c d) := by
  have m1 : c.seq ≤ (maxC c d).seq := by show c.seq ≤ if _ then _ else _; split <;> omega
  have m2 : c.depth ≤ (maxC c d).depth := by show c.depth ≤ if _ then _ else _; split <;> omega
  have m3 : c.lock ≤ (maxC c d).lock := by show c.lock ≤ if _ then _ else _; split <;> omega
  unfold Evs at h ⊢
  refine ⟨h.1, ?_⟩
  rcases h.2 with ⟨k, h⟩ | ⟨k, h | h⟩ | ⟨k, h⟩ | ⟨k, h | h⟩ | ⟨k, h | h | h⟩ | ⟨k, h | h | h⟩
  · exact .inl ⟨k, h⟩
  · exact .inr (.inl ⟨k, .inl ⟨h.1, h.2.1, by omega, by omega⟩⟩)
  · exact .inr (.inl ⟨k, .inr h⟩)
  · exact .inr (.inr (.inl ⟨k, h.1, h.2.1, by omega, by omega⟩))
  · exact .inr (.inr (.inr (.inl ⟨k, .inl h⟩)))
  · exact .inr (.inr (.inr (.inl ⟨k, .inr ⟨h.1, by omega, by omega⟩⟩)))
  · exact .inr (.inr (.inr (.inr (.inl ⟨k, .inl ⟨h.1, h.2.1, by omega⟩⟩))))
  · exact .inr (.inr (.inr (.inr (.inl ⟨k, .inr (.inl h)⟩))))
  · exact .inr (.inr (.inr (.inr (.inl ⟨k, .inr (.inr h)⟩))))
  · exact .inr (.inr (.inr (.inr (.inr ⟨k, .inl h⟩))))
  · exact .inr (.inr (.inr (.inr (.inr ⟨k, .inr (.inl ⟨h.1, h.2.1, by omega⟩)⟩))))
  · exact .inr (.inr (.inr (.inr (.inr ⟨k, .inr (.inr h)⟩))))
theorem evs_named {s : Scr} {w : Wit} {c : Ctx3} (h : Evs s w c) : (w.key = s.key ∨ w.key = s.other ∨ w.key = s.rev) ∨ w.kind = 4 := by
  rcases h.2 with ⟨k, h⟩ | ⟨k, h | h⟩ | ⟨k, h⟩ | ⟨k, h | h⟩ | ⟨k, h | h | h⟩ | ⟨k, h | h | h⟩
  · exact .inl (.inl h.2)
  · exact .inl (.inl h.2.1)
  · exact .inl (.inr (.inr h.2))
  · exact .inl (.inl h.2.1)
  · exact .inl (.inl h.2)
  · exact .inr h.1
  · exact .inl (.inl h.2.1)
  · exact .inl (.inr (.inl h.2.1))
  · exact .inl (.inr (.inr h.2))
  · exact .inl (.inl h.2.1)
  · exact .inl (.inr (.inl h.2.1))
  · exact .inl (.inr (.inr h.2))
theorem evs_open {s : Scr} {w : Wit} {c : Ctx3} (h : Evs s w c) (k4 : w.kind = 4) : s.kind = 4 := by
  rcases h.2 with ⟨k, h⟩ | ⟨k, h | h⟩ | ⟨k, h⟩ | ⟨k, h | h⟩ | ⟨k, h | h | h⟩ | ⟨k, h | h | h⟩
  all_goals first | exact k | (have := h.1; omega)

set_option maxHeartbeats 1000000 in
theorem grows_law (s : Scr) (w : Wit) (c d : Ctx3) : AC Try.prog 9 [s.av, w.av, c.av, d.av] [] (fun r hp' => r = .bool true ∧ hp' = []) := by
  refine AC.left (AC.body tokT Try.func9 rfl rfl rfl (by decide) (by rfl) ?_)
  obtain ⟨B1, hB1⟩ : ∃ B, evB s w c = B := ⟨_, rfl⟩
  obtain ⟨B2, hB2⟩ : ∃ B, evB s w (maxC c d) = B := ⟨_, rfl⟩
  have f1 : B1 = true → B2 = true := fun h => by rw [← hB2]; exact evB_true.2 (evs_grow (evB_true.1 (hB1.trans h)))
  have f2 : B2 = true → (w.key = s.key ∨ w.key = s.other ∨ w.key = s.rev) ∨ w.kind = 4 := fun h => evs_named (evB_true.1 (hB2.trans h))
  have f3 : B2 = true → w.kind = 4 → s.kind = 4 := fun h => evs_open (evB_true.1 (hB2.trans h))
  refine AW.pre tokT (fun _ => true) ?_; (conv => whnf)
  refine AW.cutT (fun fr hp => w.pre.length ≤ 200 ∧ fr = [(4, .ptr 0 0 0 0), (5, .ptr 1 0 0 0), (6, .ptr 2 0 0 0), (7, .ptr 3 0 0 0)] ∧ hp = [⟨38, false, none, .var s.segs⟩, ⟨3, false, none, .var w.segs⟩, ⟨3, false, none, .var c.segs⟩, ⟨3, false, none, .var d.segs⟩]) ?_ ?_
  · refine ev_sound tokT (keep := fun _ => true) ?_
    (conv => whnf); (cases g : (decide ((↑w.pre.length : Int) > 200) : Bool) <;> (try simp only [beq_iff_eq, beq_eq_false_iff_ne, ne_eq, decide_eq_true_eq, decide_eq_false_iff_not, bne_iff_ne, bne_eq_false_iff_eq, Bool.not_eq_true, Bool.not_eq_false, gt_iff_lt, ge_iff_le] at g) <;> (try (exfalso; omega)))
    case' true =>
      (conv => whnf)
      refine AC.pure awake13_ok (by (repeat' (exact True.intro))) (by (repeat' (exact True.intro))) ?_
      (conv => whnf); (refine Left.of [] (.bool true) [] (by rfl) (by rfl) (by rfl) (by (repeat' (exact True.intro))) (by rfl) (by (repeat' (exact True.intro))) ?_)
      exact ⟨rfl, rfl⟩
    (conv => whnf)
    (refine Turned.of [0, 1, 2, 3] [(4, .ptr 0 0 0 0), (5, .ptr 1 0 0 0), (6, .ptr 2 0 0 0), (7, .ptr 3 0 0 0)] [⟨38, false, none, .var s.segs⟩, ⟨3, false, none, .var w.segs⟩, ⟨3, false, none, .var c.segs⟩, ⟨3, false, none, .var d.segs⟩] (by rfl) (by rfl) (by rfl) (by (repeat' (first | exact True.intro | exact rfl | refine And.intro ?_ ?_ | (simp [AV.ren, AV.rens, AObj.ren, Ent.ren, AV.inn, AV.inns, AObj.inn, *]; done)))) (by (repeat' (first | exact True.intro | exact rfl | refine And.intro ?_ ?_ | (simp [AV.ren, AV.rens, AObj.ren, Ent.ren, AV.inn, AV.inns, AObj.inn, *]; done)))) ?_)
    exact ⟨by omega, rfl, rfl⟩
  · rintro fr hp ⟨hl, rfl, rfl⟩
    refine AW.pre tokT (fun _ => true) ?_; (conv => whnf)
    (refine AW.turnL [0, 1, 2, 4] [(4, .ptr 0 0 0 0), (5, .ptr 1 0 0 0), (6, .ptr 2 0 0 0), (9, .ptr 3 0 0 0)] [⟨38, false, none, .var s.segs⟩, ⟨3, false, none, .var w.segs⟩, ⟨3, false, none, .var c.segs⟩, ⟨3, false, none, .var (maxC c d).segs⟩] (by rfl) (by rfl) (by rfl) (by (repeat' (first | exact True.intro | exact rfl | refine And.intro ?_ ?_ | (simp [AV.ren, AV.rens, AObj.ren, Ent.ren, AV.inn, AV.inns, AObj.inn, *]; done)))) (by (repeat' (first | exact True.intro | exact rfl | refine And.intro ?_ ?_ | (simp [AV.ren, AV.rens, AObj.ren, Ent.ren, AV.inn, AV.inns, AObj.inn, *]; done)))) ?_)
    refine AW.cutT (fun fr hp => fr = [(4, .ptr 0 0 0 0), (5, .ptr 1 0 0 0), (9, .ptr 2 0 0 0)] ∧ hp = [⟨38, false, none, .var s.segs⟩, ⟨3, false, none, .var w.segs⟩, ⟨3, false, none, .var (maxC c d).segs⟩]) ?_ ?_
    · refine ev_sound tokT (keep := fun _ => true) ?_
      (conv => whnf)
      refine AC.frame (eval_b s w c (by omega)) [] (by (repeat' (exact True.intro))) (by rfl) (by (repeat' (first | exact True.intro | refine And.intro ?_ ?_))) (by rfl) ?_
      rintro r0 hp0 ⟨rfl, rfl⟩
      rw [hB1]
      cases B1 with
      | false =>
        (conv => whnf)
        (refine Turned.of [0, 1, 3] [(4, .ptr 0 0 0 0), (5, .ptr 1 0 0 0), (9, .ptr 2 0 0 0)] [⟨38, false, none, .var s.segs⟩, ⟨3, false, none, .var w.segs⟩, ⟨3, false, none, .var (maxC c d).segs⟩] (by rfl) (by rfl) (by rfl) (by (repeat' (first | exact True.intro | exact rfl | refine And.intro ?_ ?_ | (simp [AV.ren, AV.rens, AObj.ren, Ent.ren, AV.inn, AV.inns, AObj.inn, *]; done)))) (by (repeat' (first | exact True.intro | exact rfl | refine And.intro ?_ ?_ | (simp [AV.ren, AV.rens, AObj.ren, Ent.ren, AV.inn, AV.inns, AObj.inn, *]; done)))) ?_)
        exact ⟨rfl, rfl⟩
      | true =>
        (conv => whnf)
        refine AC.frame (eval_b s w (maxC c d) (by omega)) [] (by (repeat' (exact True.intro))) (by rfl) (by (repeat' (first | exact True.intro | refine And.intro ?_ ?_))) (by rfl) ?_
        rintro r0 hp0 ⟨rfl, rfl⟩
        rw [hB2]
        rw [f1 rfl]
        (conv => whnf)
        (refine Turned.of [0, 1, 3] [(4, .ptr 0 0 0 0), (5, .ptr 1 0 0 0), (9, .ptr 2 0 0 0)] [⟨38, false, none, .var s.segs⟩, ⟨3, false, none, .var w.segs⟩, ⟨3, false, none, .var (maxC c d).segs⟩] (by rfl) (by rfl) (by rfl) (by (repeat' (first | exact True.intro | exact rfl | refine And.intro ?_ ?_ | (simp [AV.ren, AV.rens, AObj.ren, Ent.ren, AV.inn, AV.inns, AObj.inn, *]; done)))) (by (repeat' (first | exact True.intro | exact rfl | refine And.intro ?_ ?_ | (simp [AV.ren, AV.rens, AObj.ren, Ent.ren, AV.inn, AV.inns, AObj.inn, *]; done)))) ?_)
        exact ⟨rfl, rfl⟩
    · rintro fr hp ⟨rfl, rfl⟩
      refine AW.cutT (fun fr hp => ∃ N : Bool, (N = true ↔ (w.key = s.key ∨ w.key = s.other ∨ w.key = s.rev)) ∧ fr = [(4, .ptr 0 0 0 0), (5, .ptr 1 0 0 0), (9, .ptr 2 0 0 0), (10, .bool N)] ∧ hp = [⟨38, false, none, .var s.segs⟩, ⟨3, false, none, .var w.segs⟩, ⟨3, false, none, .var (maxC c d).segs⟩]) ?_ ?_
      · refine ev_sound tokT (keep := fun _ => true) ?_
        (conv => whnf); (cases n1 : (w.key == s.key : Bool) <;> (try simp only [beq_iff_eq, beq_eq_false_iff_ne, ne_eq, decide_eq_true_eq, decide_eq_false_iff_not, bne_iff_ne, bne_eq_false_iff_eq, Bool.not_eq_true, Bool.not_eq_false, gt_iff_lt, ge_iff_le] at n1) <;> (try (exfalso; omega)))
        case' true =>
          (conv => whnf)
          (refine Turned.of [0, 1, 2] [(4, .ptr 0 0 0 0), (5, .ptr 1 0 0 0), (9, .ptr 2 0 0 0), (10, .bool true)] [⟨38, false, none, .var s.segs⟩, ⟨3, false, none, .var w.segs⟩, ⟨3, false, none, .var (maxC c d).segs⟩] (by rfl) (by rfl) (by rfl) (by (repeat' (first | exact True.intro | exact rfl | refine And.intro ?_ ?_ | (simp [AV.ren, AV.rens, AObj.ren, Ent.ren, AV.inn, AV.inns, AObj.inn, *]; done)))) (by (repeat' (first | exact True.intro | exact rfl | refine And.intro ?_ ?_ | (simp [AV.ren, AV.rens, AObj.ren, Ent.ren, AV.inn, AV.inns, AObj.inn, *]; done)))) ?_)
          exact ⟨true, ⟨fun _ => .inl n1, fun _ => rfl⟩, rfl, rfl⟩
        (conv => whnf); (cases n2 : (w.key == s.other : Bool) <;> (try simp only [beq_iff_eq, beq_eq_false_iff_ne, ne_eq, decide_eq_true_eq, decide_eq_false_iff_not, bne_iff_ne, bne_eq_false_iff_eq, Bool.not_eq_true, Bool.not_eq_false, gt_iff_lt, ge_iff_le] at n2) <;> (try (exfalso; omega)))
        case' true =>
          (conv => whnf)
          (refine Turned.of [0, 1, 2] [(4, .ptr 0 0 0 0), (5, .ptr 1 0 0 0), (9, .ptr 2 0 0 0), (10, .bool true)] [⟨38, false, none, .var s.segs⟩, ⟨3, false, none, .var w.segs⟩, ⟨3, false, none, .var (maxC c d).segs⟩] (by rfl) (by rfl) (by rfl) (by (repeat' (first | exact True.intro | exact rfl | refine And.intro ?_ ?_ | (simp [AV.ren, AV.rens, AObj.ren, Ent.ren, AV.inn, AV.inns, AObj.inn, *]; done)))) (by (repeat' (first | exact True.intro | exact rfl | refine And.intro ?_ ?_ | (simp [AV.ren, AV.rens, AObj.ren, Ent.ren, AV.inn, AV.inns, AObj.inn, *]; done)))) ?_)
          exact ⟨true, ⟨fun _ => .inr (.inl n2), fun _ => rfl⟩, rfl, rfl⟩
        (conv => whnf)
        (refine Turned.of [0, 1, 2] [(4, .ptr 0 0 0 0), (5, .ptr 1 0 0 0), (9, .ptr 2 0 0 0), (10, .bool (w.key == s.rev))] [⟨38, false, none, .var s.segs⟩, ⟨3, false, none, .var w.segs⟩, ⟨3, false, none, .var (maxC c d).segs⟩] (by rfl) (by rfl) (by rfl) (by (repeat' (first | exact True.intro | exact rfl | refine And.intro ?_ ?_ | (simp [AV.ren, AV.rens, AObj.ren, Ent.ren, AV.inn, AV.inns, AObj.inn, *]; done)))) (by (repeat' (first | exact True.intro | exact rfl | refine And.intro ?_ ?_ | (simp [AV.ren, AV.rens, AObj.ren, Ent.ren, AV.inn, AV.inns, AObj.inn, *]; done)))) ?_)
        exact ⟨_, by rw [beq_iff_eq]; omega, rfl, rfl⟩
      · rintro fr hp ⟨N, hN, rfl, rfl⟩
        refine AW.cutT (fun fr hp => (B2 = true → w.kind = 4 → s.kind = 4) ∧ fr = [(4, .ptr 0 0 0 0), (5, .ptr 1 0 0 0), (9, .ptr 2 0 0 0)] ∧ hp = [⟨38, false, none, .var s.segs⟩, ⟨3, false, none, .var w.segs⟩, ⟨3, false, none, .var (maxC c d).segs⟩]) ?_ ?_
        · refine ev_sound tokT (keep := fun _ => true) ?_
          (conv => whnf)
          cases N with
          | true =>
            (conv => whnf)
            (refine Turned.of [0, 1, 2] [(4, .ptr 0 0 0 0), (5, .ptr 1 0 0 0), (9, .ptr 2 0 0 0)] [⟨38, false, none, .var s.segs⟩, ⟨3, false, none, .var w.segs⟩, ⟨3, false, none, .var (maxC c d).segs⟩] (by rfl) (by rfl) (by rfl) (by (repeat' (first | exact True.intro | exact rfl | refine And.intro ?_ ?_ | (simp [AV.ren, AV.rens, AObj.ren, Ent.ren, AV.inn, AV.inns, AObj.inn, *]; done)))) (by (repeat' (first | exact True.intro | exact rfl | refine And.intro ?_ ?_ | (simp [AV.ren, AV.rens, AObj.ren, Ent.ren, AV.inn, AV.inns, AObj.inn, *]; done)))) ?_)
            exact ⟨f3, rfl, rfl⟩
          | false =>
            (conv => whnf); (cases k4 : (w.kind != 4 : Bool) <;> (try simp only [beq_iff_eq, beq_eq_false_iff_ne, ne_eq, decide_eq_true_eq, decide_eq_false_iff_not, bne_iff_ne, bne_eq_false_iff_eq, Bool.not_eq_true, Bool.not_eq_false, gt_iff_lt, ge_iff_le] at k4) <;> (try (exfalso; omega)))
            case' false =>
              (conv => whnf)
              (refine Turned.of [0, 1, 2] [(4, .ptr 0 0 0 0), (5, .ptr 1 0 0 0), (9, .ptr 2 0 0 0)] [⟨38, false, none, .var s.segs⟩, ⟨3, false, none, .var w.segs⟩, ⟨3, false, none, .var (maxC c d).segs⟩] (by rfl) (by rfl) (by rfl) (by (repeat' (first | exact True.intro | exact rfl | refine And.intro ?_ ?_ | (simp [AV.ren, AV.rens, AObj.ren, Ent.ren, AV.inn, AV.inns, AObj.inn, *]; done)))) (by (repeat' (first | exact True.intro | exact rfl | refine And.intro ?_ ?_ | (simp [AV.ren, AV.rens, AObj.ren, Ent.ren, AV.inn, AV.inns, AObj.inn, *]; done)))) ?_)
              exact ⟨f3, rfl, rfl⟩
            (conv => whnf)
            refine AC.frame (eval_b s w (maxC c d) (by omega)) [] (by (repeat' (exact True.intro))) (by rfl) (by (repeat' (first | exact True.intro | refine And.intro ?_ ?_))) (by rfl) ?_
            rintro r0 hp0 ⟨rfl, rfl⟩
            rw [hB2]
            have : B2 = false := by
              cases B2 with
              | false => rfl
              | true => exact absurd (f2 rfl) (fun h => h.elim (fun g => Bool.noConfusion (hN.2 g)) k4)
            rw [this]
            (conv => whnf)
            (refine Turned.of [0, 1, 2] [(4, .ptr 0 0 0 0), (5, .ptr 1 0 0 0), (9, .ptr 2 0 0 0)] [⟨38, false, none, .var s.segs⟩, ⟨3, false, none, .var w.segs⟩, ⟨3, false, none, .var (maxC c d).segs⟩] (by rfl) (by rfl) (by rfl) (by (repeat' (first | exact True.intro | exact rfl | refine And.intro ?_ ?_ | (simp [AV.ren, AV.rens, AObj.ren, Ent.ren, AV.inn, AV.inns, AObj.inn, *]; done)))) (by (repeat' (first | exact True.intro | exact rfl | refine And.intro ?_ ?_ | (simp [AV.ren, AV.rens, AObj.ren, Ent.ren, AV.inn, AV.inns, AObj.inn, *]; done)))) ?_)
            exact ⟨fun h => by simp [this] at h, rfl, rfl⟩
        · rintro fr hp ⟨_, rfl, rfl⟩
          refine ev_sound tokT (keep := fun _ => true) ?_
          (conv => whnf); (cases k4 : (w.kind != 4 : Bool) <;> (try simp only [beq_iff_eq, beq_eq_false_iff_ne, ne_eq, decide_eq_true_eq, decide_eq_false_iff_not, bne_iff_ne, bne_eq_false_iff_eq, Bool.not_eq_true, Bool.not_eq_false, gt_iff_lt, ge_iff_le] at k4) <;> (try (exfalso; omega)))
          case' true =>
            (conv => whnf)
            refine AC.pure awake13_ok (by (repeat' (exact True.intro))) (by (repeat' (exact True.intro))) ?_
            (conv => whnf); (refine Left.of [] (.bool true) [] (by rfl) (by rfl) (by rfl) (by (repeat' (exact True.intro))) (by rfl) (by (repeat' (exact True.intro))) ?_)
            exact ⟨rfl, rfl⟩
          (conv => whnf); (cases k5 : (s.kind == 4 : Bool) <;> (try simp only [beq_iff_eq, beq_eq_false_iff_ne, ne_eq, decide_eq_true_eq, decide_eq_false_iff_not, bne_iff_ne, bne_eq_false_iff_eq, Bool.not_eq_true, Bool.not_eq_false, gt_iff_lt, ge_iff_le] at k5) <;> (try (exfalso; omega)))
          case' true =>
            (conv => whnf)
            refine AC.pure awake13_ok (by (repeat' (exact True.intro))) (by (repeat' (exact True.intro))) ?_
            (conv => whnf); (refine Left.of [] (.bool true) [] (by rfl) (by rfl) (by rfl) (by (repeat' (exact True.intro))) (by rfl) (by (repeat' (exact True.intro))) ?_)
            exact ⟨rfl, rfl⟩
          (conv => whnf)
          refine AC.frame (eval_b s w (maxC c d) (by omega)) [] (by (repeat' (exact True.intro))) (by rfl) (by (repeat' (first | exact True.intro | refine And.intro ?_ ?_))) (by rfl) ?_
          rintro r0 hp0 ⟨rfl, rfl⟩
          rw [hB2]
          have : B2 = false := by
            cases B2 with
            | false => rfl
            | true => exact absurd (f3 rfl k4) k5
          rw [this]
          (conv => whnf)
          refine AC.pure awake13_ok (by (repeat' (exact True.intro))) (by (repeat' (exact True.intro))) ?_
          (conv => whnf); (refine Left.of [] (.bool true) [] (by rfl) (by rfl) (by rfl) (by (repeat' (exact True.intro))) (by rfl) (by (repeat' (exact True.intro))) ?_)
          exact ⟨rfl, rfl⟩
end Go.Aw
