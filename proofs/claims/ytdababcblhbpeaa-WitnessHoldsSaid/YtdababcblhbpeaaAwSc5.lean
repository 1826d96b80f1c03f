/-
  AwSc5: the second reading of scripts: Valid. Own work.
-/
import Derived.Test.YtdababcblhbpeaaAwSc4
set_option linter.unusedVariables false
set_option linter.unusedSimpArgs false
set_option maxRecDepth 20000
open Go.Proofs
namespace Go.Aw

theorem okB_no {s : Scr} : okB s = false ↔ ¬ s.ok := by rw [← okB_true]; simp
theorem refvalid_b (s : Scr) : AC Try.prog 37 [s.av] [] (fun r hp' => r = .bool (okB s) ∧ hp' = []) := by
  refine AC.left (AC.body tokT Try.func37 rfl rfl rfl (by decide) (by rfl) ?_)
  refine AW.pre tokT (fun _ => true) ?_; (conv => whnf)
  refine AW.pre tokT (fun _ => true) ?_; (conv => whnf)
  refine AW.cutT (fun fr hp => (0 ≤ s.key ∧ s.key ≤ 1073741824 ∧ 0 ≤ s.other ∧ s.other ≤ 1073741824 ∧ 0 ≤ s.rev ∧ s.rev ≤ 1073741824) ∧ fr = [(1, .ptr 0 0 0 0)] ∧ hp = [⟨38, false, none, .var s.segs⟩]) ?_ ?_
  · refine AW.pre tokT (fun _ => true) ?_; (conv => whnf)
    refine AW.block ?_
    (refine AW.turnL [0, 1] [(1, .ptr 0 0 0 0), (3, .sl 1 0 3 (some 3)), (4, .int .i64 0)] [⟨38, false, none, .var s.segs⟩, ⟨1, false, none, .ints .i64 [s.key, s.other, s.rev]⟩] (by rfl) (by rfl) (by rfl) (by (repeat' (first | exact True.intro | exact rfl | refine And.intro ?_ ?_ | (simp [AV.ren, AV.rens, AObj.ren, Ent.ren, AV.inn, AV.inns, AObj.inn, *]; done)))) (by (repeat' (first | exact True.intro | exact rfl | refine And.intro ?_ ?_ | (simp [AV.ren, AV.rens, AObj.ren, Ent.ren, AV.inn, AV.inns, AObj.inn, *]; done)))) ?_)
    refine AW.loop (fun q fr hp => ∃ i : Nat, q = 3 - i ∧ i ≤ 3 ∧ (1 ≤ i → 0 ≤ s.key ∧ s.key ≤ 1073741824) ∧ (2 ≤ i → 0 ≤ s.other ∧ s.other ≤ 1073741824) ∧ (3 ≤ i → 0 ≤ s.rev ∧ s.rev ≤ 1073741824) ∧ fr = [(1, .ptr 0 0 0 0), (3, .sl 1 0 3 (some 3)), (4, .int .i64 i)] ∧ hp = [⟨38, false, none, .var s.segs⟩, ⟨1, false, none, .ints .i64 [s.key, s.other, s.rev]⟩]) 3 ?_ ?_
    · exact ⟨0, rfl, by omega, by omega, by omega, by omega, rfl, rfl⟩
    · rintro q fr hp ⟨i, rfl, hi, b1, b2, b3, rfl, rfl⟩ -
      have h4 : i = 0 ∨ i = 1 ∨ i = 2 ∨ i = 3 := by omega
      rcases h4 with rfl | rfl | rfl | rfl
      · refine AW.post ?_
        refine ev_sound tokT (keep := fun _ => true) ?_
        ((conv => whnf); (repeat (((refine And.intro (by first | omega | (simp; done)) ?_); (conv => whnf))))); rw [show [s.key, s.other, s.rev].getD (0 + ((0 : Nat) : Int).toNat) 0 = s.key from rfl]; (cases g1 : (decide (s.key < 0) : Bool) <;> (try simp only [beq_iff_eq, beq_eq_false_iff_ne, ne_eq, decide_eq_true_eq, decide_eq_false_iff_not, bne_iff_ne, bne_eq_false_iff_eq, Bool.not_eq_true, Bool.not_eq_false, gt_iff_lt, ge_iff_le] at g1) <;> (try (exfalso; omega)))
        case' true =>
          (conv => whnf)
          (refine Left.of [] (.bool false) [] (by rfl) (by rfl) (by rfl) (by (repeat' (exact True.intro))) (by rfl) (by (repeat' (exact True.intro))) ?_)
          exact ⟨by rw [okB_no.2 (fun g => by unfold Scr.ok at g; omega)], rfl⟩
        ((conv => whnf); (repeat (((refine And.intro (by first | omega | (simp; done)) ?_); (conv => whnf))))); rw [show [s.key, s.other, s.rev].getD (0 + ((0 : Nat) : Int).toNat) 0 = s.key from rfl]; (cases g2 : (decide (s.key > 1073741824) : Bool) <;> (try simp only [beq_iff_eq, beq_eq_false_iff_ne, ne_eq, decide_eq_true_eq, decide_eq_false_iff_not, bne_iff_ne, bne_eq_false_iff_eq, Bool.not_eq_true, Bool.not_eq_false, gt_iff_lt, ge_iff_le] at g2) <;> (try (exfalso; omega)))
        case' true =>
          (conv => whnf)
          (refine Left.of [] (.bool false) [] (by rfl) (by rfl) (by rfl) (by (repeat' (exact True.intro))) (by rfl) (by (repeat' (exact True.intro))) ?_)
          exact ⟨by rw [okB_no.2 (fun g => by unfold Scr.ok at g; omega)], rfl⟩
        (conv => whnf)
        (refine Turned.of [0, 1] [(1, .ptr 0 0 0 0), (3, .sl 1 0 3 (some 3)), (4, .int .i64 ((1 : Nat) : Int))] [⟨38, false, none, .var s.segs⟩, ⟨1, false, none, .ints .i64 [s.key, s.other, s.rev]⟩] (by rfl) (by rfl) (by rfl) (by (repeat' (first | exact True.intro | exact rfl | refine And.intro ?_ ?_ | (simp [AV.ren, AV.rens, AObj.ren, Ent.ren, AV.inn, AV.inns, AObj.inn, *]; done)))) (by (repeat' (first | exact True.intro | exact rfl | refine And.intro ?_ ?_ | (simp [AV.ren, AV.rens, AObj.ren, Ent.ren, AV.inn, AV.inns, AObj.inn, *]; done)))) ?_)
        exact ⟨2, by omega, 1, rfl, by omega, by omega, by omega, by omega, rfl, rfl⟩
      · refine AW.post ?_
        refine ev_sound tokT (keep := fun _ => true) ?_
        ((conv => whnf); (repeat (((refine And.intro (by first | omega | (simp; done)) ?_); (conv => whnf))))); rw [show [s.key, s.other, s.rev].getD (0 + ((1 : Nat) : Int).toNat) 0 = s.other from rfl]; (cases g1 : (decide (s.other < 0) : Bool) <;> (try simp only [beq_iff_eq, beq_eq_false_iff_ne, ne_eq, decide_eq_true_eq, decide_eq_false_iff_not, bne_iff_ne, bne_eq_false_iff_eq, Bool.not_eq_true, Bool.not_eq_false, gt_iff_lt, ge_iff_le] at g1) <;> (try (exfalso; omega)))
        case' true =>
          (conv => whnf)
          (refine Left.of [] (.bool false) [] (by rfl) (by rfl) (by rfl) (by (repeat' (exact True.intro))) (by rfl) (by (repeat' (exact True.intro))) ?_)
          exact ⟨by rw [okB_no.2 (fun g => by unfold Scr.ok at g; omega)], rfl⟩
        ((conv => whnf); (repeat (((refine And.intro (by first | omega | (simp; done)) ?_); (conv => whnf))))); rw [show [s.key, s.other, s.rev].getD (0 + ((1 : Nat) : Int).toNat) 0 = s.other from rfl]; (cases g2 : (decide (s.other > 1073741824) : Bool) <;> (try simp only [beq_iff_eq, beq_eq_false_iff_ne, ne_eq, decide_eq_true_eq, decide_eq_false_iff_not, bne_iff_ne, bne_eq_false_iff_eq, Bool.not_eq_true, Bool.not_eq_false, gt_iff_lt, ge_iff_le] at g2) <;> (try (exfalso; omega)))
        case' true =>
          (conv => whnf)
          (refine Left.of [] (.bool false) [] (by rfl) (by rfl) (by rfl) (by (repeat' (exact True.intro))) (by rfl) (by (repeat' (exact True.intro))) ?_)
          exact ⟨by rw [okB_no.2 (fun g => by unfold Scr.ok at g; omega)], rfl⟩
        (conv => whnf)
        (refine Turned.of [0, 1] [(1, .ptr 0 0 0 0), (3, .sl 1 0 3 (some 3)), (4, .int .i64 ((2 : Nat) : Int))] [⟨38, false, none, .var s.segs⟩, ⟨1, false, none, .ints .i64 [s.key, s.other, s.rev]⟩] (by rfl) (by rfl) (by rfl) (by (repeat' (first | exact True.intro | exact rfl | refine And.intro ?_ ?_ | (simp [AV.ren, AV.rens, AObj.ren, Ent.ren, AV.inn, AV.inns, AObj.inn, *]; done)))) (by (repeat' (first | exact True.intro | exact rfl | refine And.intro ?_ ?_ | (simp [AV.ren, AV.rens, AObj.ren, Ent.ren, AV.inn, AV.inns, AObj.inn, *]; done)))) ?_)
        exact ⟨1, by omega, 2, rfl, by omega, by omega, by omega, by omega, rfl, rfl⟩
      · refine AW.post ?_
        refine ev_sound tokT (keep := fun _ => true) ?_
        ((conv => whnf); (repeat (((refine And.intro (by first | omega | (simp; done)) ?_); (conv => whnf))))); rw [show [s.key, s.other, s.rev].getD (0 + ((2 : Nat) : Int).toNat) 0 = s.rev from rfl]; (cases g1 : (decide (s.rev < 0) : Bool) <;> (try simp only [beq_iff_eq, beq_eq_false_iff_ne, ne_eq, decide_eq_true_eq, decide_eq_false_iff_not, bne_iff_ne, bne_eq_false_iff_eq, Bool.not_eq_true, Bool.not_eq_false, gt_iff_lt, ge_iff_le] at g1) <;> (try (exfalso; omega)))
        case' true =>
          (conv => whnf)
          (refine Left.of [] (.bool false) [] (by rfl) (by rfl) (by rfl) (by (repeat' (exact True.intro))) (by rfl) (by (repeat' (exact True.intro))) ?_)
          exact ⟨by rw [okB_no.2 (fun g => by unfold Scr.ok at g; omega)], rfl⟩
        ((conv => whnf); (repeat (((refine And.intro (by first | omega | (simp; done)) ?_); (conv => whnf))))); rw [show [s.key, s.other, s.rev].getD (0 + ((2 : Nat) : Int).toNat) 0 = s.rev from rfl]; (cases g2 : (decide (s.rev > 1073741824) : Bool) <;> (try simp only [beq_iff_eq, beq_eq_false_iff_ne, ne_eq, decide_eq_true_eq, decide_eq_false_iff_not, bne_iff_ne, bne_eq_false_iff_eq, Bool.not_eq_true, Bool.not_eq_false, gt_iff_lt, ge_iff_le] at g2) <;> (try (exfalso; omega)))
        case' true =>
          (conv => whnf)
          (refine Left.of [] (.bool false) [] (by rfl) (by rfl) (by rfl) (by (repeat' (exact True.intro))) (by rfl) (by (repeat' (exact True.intro))) ?_)
          exact ⟨by rw [okB_no.2 (fun g => by unfold Scr.ok at g; omega)], rfl⟩
        (conv => whnf)
        (refine Turned.of [0, 1] [(1, .ptr 0 0 0 0), (3, .sl 1 0 3 (some 3)), (4, .int .i64 ((3 : Nat) : Int))] [⟨38, false, none, .var s.segs⟩, ⟨1, false, none, .ints .i64 [s.key, s.other, s.rev]⟩] (by rfl) (by rfl) (by rfl) (by (repeat' (first | exact True.intro | exact rfl | refine And.intro ?_ ?_ | (simp [AV.ren, AV.rens, AObj.ren, Ent.ren, AV.inn, AV.inns, AObj.inn, *]; done)))) (by (repeat' (first | exact True.intro | exact rfl | refine And.intro ?_ ?_ | (simp [AV.ren, AV.rens, AObj.ren, Ent.ren, AV.inn, AV.inns, AObj.inn, *]; done)))) ?_)
        exact ⟨0, by omega, 3, rfl, by omega, by omega, by omega, by omega, rfl, rfl⟩
      · refine AW.post ?_
        refine ev_sound tokT (keep := fun _ => true) ?_
        (conv => whnf)
        (refine Turned.of [0] [(1, .ptr 0 0 0 0)] [⟨38, false, none, .var s.segs⟩] (by rfl) (by rfl) (by rfl) (by (repeat' (first | exact True.intro | exact rfl | refine And.intro ?_ ?_ | (simp [AV.ren, AV.rens, AObj.ren, Ent.ren, AV.inn, AV.inns, AObj.inn, *]; done)))) (by (repeat' (first | exact True.intro | exact rfl | refine And.intro ?_ ?_ | (simp [AV.ren, AV.rens, AObj.ren, Ent.ren, AV.inn, AV.inns, AObj.inn, *]; done)))) ?_)
        exact ⟨by omega, rfl, rfl⟩
  · rintro fr hp ⟨hk, rfl, rfl⟩
    refine ev_sound tokT (keep := fun _ => true) ?_
    (conv => whnf); (cases g1 : (decide (s.kind ≥ 1) : Bool) <;> (try simp only [beq_iff_eq, beq_eq_false_iff_ne, ne_eq, decide_eq_true_eq, decide_eq_false_iff_not, bne_iff_ne, bne_eq_false_iff_eq, Bool.not_eq_true, Bool.not_eq_false, gt_iff_lt, ge_iff_le] at g1) <;> (try (exfalso; omega)))
    case' false =>
      (conv => whnf); (refine Left.of [] (.bool false) [] (by rfl) (by rfl) (by rfl) (by (repeat' (exact True.intro))) (by rfl) (by (repeat' (exact True.intro))) ?_)
      exact ⟨by rw [okB_no.2 (fun g => by unfold Scr.ok at g; omega)], rfl⟩
    (conv => whnf); (cases g2 : (decide (s.kind ≤ 6) : Bool) <;> (try simp only [beq_iff_eq, beq_eq_false_iff_ne, ne_eq, decide_eq_true_eq, decide_eq_false_iff_not, bne_iff_ne, bne_eq_false_iff_eq, Bool.not_eq_true, Bool.not_eq_false, gt_iff_lt, ge_iff_le] at g2) <;> (try (exfalso; omega)))
    case' false =>
      (conv => whnf); (refine Left.of [] (.bool false) [] (by rfl) (by rfl) (by rfl) (by (repeat' (exact True.intro))) (by rfl) (by (repeat' (exact True.intro))) ?_)
      exact ⟨by rw [okB_no.2 (fun g => by unfold Scr.ok at g; omega)], rfl⟩
    (conv => whnf); (cases g3 : (decide (s.delay ≥ 0) : Bool) <;> (try simp only [beq_iff_eq, beq_eq_false_iff_ne, ne_eq, decide_eq_true_eq, decide_eq_false_iff_not, bne_iff_ne, bne_eq_false_iff_eq, Bool.not_eq_true, Bool.not_eq_false, gt_iff_lt, ge_iff_le] at g3) <;> (try (exfalso; omega)))
    case' false =>
      (conv => whnf); (refine Left.of [] (.bool false) [] (by rfl) (by rfl) (by rfl) (by (repeat' (exact True.intro))) (by rfl) (by (repeat' (exact True.intro))) ?_)
      exact ⟨by rw [okB_no.2 (fun g => by unfold Scr.ok at g; omega)], rfl⟩
    (conv => whnf); (cases g4 : (decide (s.delay ≤ 65535) : Bool) <;> (try simp only [beq_iff_eq, beq_eq_false_iff_ne, ne_eq, decide_eq_true_eq, decide_eq_false_iff_not, bne_iff_ne, bne_eq_false_iff_eq, Bool.not_eq_true, Bool.not_eq_false, gt_iff_lt, ge_iff_le] at g4) <;> (try (exfalso; omega)))
    case' false =>
      (conv => whnf); (refine Left.of [] (.bool false) [] (by rfl) (by rfl) (by rfl) (by (repeat' (exact True.intro))) (by rfl) (by (repeat' (exact True.intro))) ?_)
      exact ⟨by rw [okB_no.2 (fun g => by unfold Scr.ok at g; omega)], rfl⟩
    (conv => whnf); (cases g5 : (decide (s.expiry ≥ 0) : Bool) <;> (try simp only [beq_iff_eq, beq_eq_false_iff_ne, ne_eq, decide_eq_true_eq, decide_eq_false_iff_not, bne_iff_ne, bne_eq_false_iff_eq, Bool.not_eq_true, Bool.not_eq_false, gt_iff_lt, ge_iff_le] at g5) <;> (try (exfalso; omega)))
    case' false =>
      (conv => whnf); (refine Left.of [] (.bool false) [] (by rfl) (by rfl) (by rfl) (by (repeat' (exact True.intro))) (by rfl) (by (repeat' (exact True.intro))) ?_)
      exact ⟨by rw [okB_no.2 (fun g => by unfold Scr.ok at g; omega)], rfl⟩
    (conv => whnf)
    (refine Left.of [] (.bool (decide (s.expiry ≤ 1000000))) [] (by rfl) (by rfl) (by rfl) (by (repeat' (exact True.intro))) (by rfl) (by (repeat' (exact True.intro))) ?_)
    exact ⟨congrArg AV.bool (by rw [okB_eq]; exact dec_and (by unfold Scr.ok; omega)), rfl⟩

theorem ctx_ok (c : Ctx3) : AC Try.prog 39 [c.av] [] (fun r hp' => r = c.av ∧ hp' = []) := by
  refine AC.left (AC.body tokT Try.func39 rfl rfl rfl (by decide) (by rfl) ?_)
  refine AW.pre tokT (fun _ => true) ?_; (conv => whnf)
  refine ev_sound tokT (keep := fun _ => true) ?_
  (conv => whnf)
  (refine Left.of [] c.av [] (by rfl) (by rfl) (by rfl) (by (repeat' (first | exact True.intro | refine And.intro ?_ ?_))) (by rfl) (by (repeat' (first | exact True.intro | refine And.intro ?_ ?_))) ?_)
  exact ⟨rfl, rfl⟩


theorem evB_no {s : Scr} {w : Wit} {c : Ctx3} : evB s w c = false ↔ ¬ Evs s w c := by rw [← evB_true]; simp

theorem bool_iff {A : Bool} {p : Prop} (h : A = true ↔ p) : (A = true ∧ p) ∨ (A = false ∧ ¬ p) := by
  cases A with
  | true => exact .inl ⟨rfl, h.1 rfl⟩
  | false => exact .inr ⟨rfl, fun g => Bool.noConfusion (h.2 g)⟩
theorem evs_yes {s : Scr} {w : Wit} {c : Ctx3} (h : Evs s w c) : AV.bool true = AV.bool (evB s w c) := by rw [evB_true.2 h]
theorem evs_dec {s : Scr} {w : Wit} {c : Ctx3} {p : Prop} [Decidable p] (h : p ↔ Evs s w c) : AV.bool (decide p) = AV.bool (evB s w c) := by rw [evB_eq, dec_and h]
theorem evs_no {s : Scr} {w : Wit} {c : Ctx3} (h : ¬ Evs s w c) : AV.bool false = AV.bool (evB s w c) := by rw [evB_no.2 h]
set_option maxHeartbeats 4000000 in
theorem refeval_b (s : Scr) (w : Wit) (c : Ctx3) (hl : w.pre.length ≤ 4294967296) : AC Try.prog 38 [s.av, w.av, c.av] [] (fun r hp' => r = .bool (evB s w c) ∧ hp' = []) := by
  refine AC.left (AC.body tokT Try.func38 rfl rfl rfl (by decide) (by rfl) ?_)
  refine AW.pre tokT (fun _ => true) ?_; (conv => whnf)
  refine AW.cutT (fun fr hp => s.ok ∧ fr = [(3, .ptr 0 0 0 0), (4, .ptr 1 0 0 0), (5, .ptr 2 0 0 0)] ∧ hp = [⟨38, false, none, .var s.segs⟩, ⟨3, false, none, .var w.segs⟩, ⟨3, false, none, .var c.segs⟩]) ?_ ?_
  · refine ev_sound tokT (keep := fun _ => true) ?_
    (conv => whnf)
    refine AC.frame (refvalid_b s) [] (by (repeat' (exact True.intro))) (by rfl) (by (repeat' (first | exact True.intro | refine And.intro ?_ ?_))) (by rfl) ?_
    rintro r0 hp0 ⟨rfl, rfl⟩
    (conv => whnf); (cases g1 : (okB s : Bool) <;> (try simp only [beq_iff_eq, beq_eq_false_iff_ne, ne_eq, decide_eq_true_eq, decide_eq_false_iff_not, bne_iff_ne, bne_eq_false_iff_eq, Bool.not_eq_true, Bool.not_eq_false, gt_iff_lt, ge_iff_le] at g1) <;> (try (exfalso; omega)))
    case' false =>
      (conv => whnf); (refine Left.of [] (.bool false) [] (by rfl) (by rfl) (by rfl) (by (repeat' (exact True.intro))) (by rfl) (by (repeat' (exact True.intro))) ?_)
      exact ⟨by rw [evB_no.2 (fun g => okB_no.1 g1 g.1)], rfl⟩
    (conv => whnf)
    (refine Turned.of [0, 1, 2] [(3, .ptr 0 0 0 0), (4, .ptr 1 0 0 0), (5, .ptr 2 0 0 0)] [⟨38, false, none, .var s.segs⟩, ⟨3, false, none, .var w.segs⟩, ⟨3, false, none, .var c.segs⟩] (by rfl) (by rfl) (by rfl) (by (repeat' (first | exact True.intro | exact rfl | refine And.intro ?_ ?_ | (simp [AV.ren, AV.rens, AObj.ren, Ent.ren, AV.inn, AV.inns, AObj.inn, *]; done)))) (by (repeat' (first | exact True.intro | exact rfl | refine And.intro ?_ ?_ | (simp [AV.ren, AV.rens, AObj.ren, Ent.ren, AV.inn, AV.inns, AObj.inn, *]; done)))) ?_)
    exact ⟨okB_true.1 g1, rfl, rfl⟩
  rintro fr hp ⟨hok, rfl, rfl⟩
  refine AW.cutT (fun fr hp => ∃ A : Bool, (A = true ↔ w.kind = 1 ∧ w.key = s.key) ∧ fr = [(3, .ptr 0 0 0 0), (4, .ptr 1 0 0 0), (5, .ptr 2 0 0 0), (7, .bool A)] ∧ hp = [⟨38, false, none, .var s.segs⟩, ⟨3, false, none, .var w.segs⟩, ⟨3, false, none, .var c.segs⟩]) ?_ ?_
  · refine ev_sound tokT (keep := fun _ => true) ?_
    (conv => whnf); (cases g1 : (w.kind == 1 : Bool) <;> (try simp only [beq_iff_eq, beq_eq_false_iff_ne, ne_eq, decide_eq_true_eq, decide_eq_false_iff_not, bne_iff_ne, bne_eq_false_iff_eq, Bool.not_eq_true, Bool.not_eq_false, gt_iff_lt, ge_iff_le] at g1) <;> (try (exfalso; omega)))
    case' false =>
      (conv => whnf)
      (refine Turned.of [0, 1, 2] [(3, .ptr 0 0 0 0), (4, .ptr 1 0 0 0), (5, .ptr 2 0 0 0), (7, .bool false)] [⟨38, false, none, .var s.segs⟩, ⟨3, false, none, .var w.segs⟩, ⟨3, false, none, .var c.segs⟩] (by rfl) (by rfl) (by rfl) (by (repeat' (first | exact True.intro | exact rfl | refine And.intro ?_ ?_ | (simp [AV.ren, AV.rens, AObj.ren, Ent.ren, AV.inn, AV.inns, AObj.inn, *]; done)))) (by (repeat' (first | exact True.intro | exact rfl | refine And.intro ?_ ?_ | (simp [AV.ren, AV.rens, AObj.ren, Ent.ren, AV.inn, AV.inns, AObj.inn, *]; done)))) ?_)
      exact ⟨false, by simp [g1], rfl, rfl⟩
    (conv => whnf)
    (refine Turned.of [0, 1, 2] [(3, .ptr 0 0 0 0), (4, .ptr 1 0 0 0), (5, .ptr 2 0 0 0), (7, .bool (w.key == s.key))] [⟨38, false, none, .var s.segs⟩, ⟨3, false, none, .var w.segs⟩, ⟨3, false, none, .var c.segs⟩] (by rfl) (by rfl) (by rfl) (by (repeat' (first | exact True.intro | exact rfl | refine And.intro ?_ ?_ | (simp [AV.ren, AV.rens, AObj.ren, Ent.ren, AV.inn, AV.inns, AObj.inn, *]; done)))) (by (repeat' (first | exact True.intro | exact rfl | refine And.intro ?_ ?_ | (simp [AV.ren, AV.rens, AObj.ren, Ent.ren, AV.inn, AV.inns, AObj.inn, *]; done)))) ?_)
    exact ⟨_, by simp [g1], rfl, rfl⟩
  rintro fr hp ⟨A, hA, rfl, rfl⟩
  refine AW.pre tokT (fun _ => true) ?_; (conv => whnf)
  refine AW.cutT (fun fr hp => ∃ B : Bool, (B = true ↔ w.kind = 3 ∧ w.key = s.rev) ∧ fr = [(3, .ptr 0 0 0 0), (4, .ptr 1 0 0 0), (5, .ptr 2 0 0 0), (7, .bool A), (8, .int .i64 (if c.depth < c.seq then c.depth else c.seq)), (9, .bool B)] ∧ hp = [⟨38, false, none, .var s.segs⟩, ⟨3, false, none, .var w.segs⟩, ⟨3, false, none, .var c.segs⟩]) ?_ ?_
  · refine ev_sound tokT (keep := fun _ => true) ?_
    (conv => whnf); (cases g1 : (w.kind == 3 : Bool) <;> (try simp only [beq_iff_eq, beq_eq_false_iff_ne, ne_eq, decide_eq_true_eq, decide_eq_false_iff_not, bne_iff_ne, bne_eq_false_iff_eq, Bool.not_eq_true, Bool.not_eq_false, gt_iff_lt, ge_iff_le] at g1) <;> (try (exfalso; omega)))
    case' false =>
      (conv => whnf)
      (refine Turned.of [0, 1, 2] [(3, .ptr 0 0 0 0), (4, .ptr 1 0 0 0), (5, .ptr 2 0 0 0), (7, .bool A), (8, .int .i64 (if c.depth < c.seq then c.depth else c.seq)), (9, .bool false)] [⟨38, false, none, .var s.segs⟩, ⟨3, false, none, .var w.segs⟩, ⟨3, false, none, .var c.segs⟩] (by rfl) (by rfl) (by rfl) (by (repeat' (first | exact True.intro | exact rfl | refine And.intro ?_ ?_ | (simp [AV.ren, AV.rens, AObj.ren, Ent.ren, AV.inn, AV.inns, AObj.inn, *]; done)))) (by (repeat' (first | exact True.intro | exact rfl | refine And.intro ?_ ?_ | (simp [AV.ren, AV.rens, AObj.ren, Ent.ren, AV.inn, AV.inns, AObj.inn, *]; done)))) ?_)
      exact ⟨false, by simp [g1], rfl, rfl⟩
    (conv => whnf)
    (refine Turned.of [0, 1, 2] [(3, .ptr 0 0 0 0), (4, .ptr 1 0 0 0), (5, .ptr 2 0 0 0), (7, .bool A), (8, .int .i64 (if c.depth < c.seq then c.depth else c.seq)), (9, .bool (w.key == s.rev))] [⟨38, false, none, .var s.segs⟩, ⟨3, false, none, .var w.segs⟩, ⟨3, false, none, .var c.segs⟩] (by rfl) (by rfl) (by rfl) (by (repeat' (first | exact True.intro | exact rfl | refine And.intro ?_ ?_ | (simp [AV.ren, AV.rens, AObj.ren, Ent.ren, AV.inn, AV.inns, AObj.inn, *]; done)))) (by (repeat' (first | exact True.intro | exact rfl | refine And.intro ?_ ?_ | (simp [AV.ren, AV.rens, AObj.ren, Ent.ren, AV.inn, AV.inns, AObj.inn, *]; done)))) ?_)
    exact ⟨_, by simp [g1], rfl, rfl⟩
  rintro fr hp ⟨B, hB, rfl, rfl⟩
  obtain ⟨m, hm⟩ : ∃ m, (if c.depth < c.seq then c.depth else c.seq) = m := ⟨_, rfl⟩
  rw [hm]
  refine AW.cutT (fun fr hp => ∃ T : Bool, (T = true ↔ w.kind = 2 ∧ toldI s.hash w.pre = 1) ∧ fr = [(3, .ptr 0 0 0 0), (4, .ptr 1 0 0 0), (5, .ptr 2 0 0 0), (7, .bool A), (8, .int .i64 m), (9, .bool B), (10, .bool T)] ∧ hp = [⟨38, false, none, .var s.segs⟩, ⟨3, false, none, .var w.segs⟩, ⟨3, false, none, .var c.segs⟩]) (AW.draw [(false, 0), (false, 1), (false, 2), (false, 3), (false, 4), (false, 5), (false, 7), (false, 8), (true, 6), (false, 9), (false, 10), (false, 11)] (keep := fun _ => true) mixed_okS tokT (by kernel_rfl) (by kernel_rfl) ?_) ?_
  · ((conv => whnf); (repeat (((refine Exists.intro _ (And.intro (by ((conv => whnf); (repeat ((refine And.intro (by exact rfl) ?_); (conv => whnf))))) ?_)); (conv => whnf))))); (cases g1 : (w.kind == 2 : Bool) <;> (try simp only [beq_iff_eq, beq_eq_false_iff_ne, ne_eq, decide_eq_true_eq, decide_eq_false_iff_not, bne_iff_ne, bne_eq_false_iff_eq, Bool.not_eq_true, Bool.not_eq_false, gt_iff_lt, ge_iff_le] at g1) <;> (try (exfalso; omega)))
    case' false =>
      ((conv => whnf); (repeat (first | ((with_reducible (refine And.intro (show Go.Aw.againsK _ _ _ _ _ from ?_) ?_)); (focus (repeat' (first | ((with_reducible (show Go.Aw.againsK _ _ _ _ _)); (conv => whnf)) | ((with_reducible (show Go.Aw.againK _ _ _ _ _)); (conv => whnf)) | (with_reducible (exact True.intro)) | (with_reducible (refine And.intro ?_ ?_)) | exact rfl | (simp; omega)))); (conv => whnf)) | ((refine Exists.intro _ (And.intro (by ((conv => whnf); (repeat ((refine And.intro (by exact rfl) ?_); (conv => whnf))))) ?_)); (conv => whnf)))))
      (refine Turned.of [0, 1, 2] [(3, .ptr 0 0 0 0), (4, .ptr 1 0 0 0), (5, .ptr 2 0 0 0), (7, .bool A), (8, .int .i64 m), (9, .bool B), (10, .bool false)] [⟨38, false, none, .var s.segs⟩, ⟨3, false, none, .var w.segs⟩, ⟨3, false, none, .var c.segs⟩] (by rfl) (by rfl) (by rfl) (by (repeat' (first | exact True.intro | exact rfl | refine And.intro ?_ ?_ | (simp [AV.ren, AV.rens, AObj.ren, Ent.ren, AV.inn, AV.inns, AObj.inn, *]; done)))) (by (repeat' (first | exact True.intro | exact rfl | refine And.intro ?_ ?_ | (simp [AV.ren, AV.rens, AObj.ren, Ent.ren, AV.inn, AV.inns, AObj.inn, *]; done)))) ?_)
      exact ⟨false, by simp [g1], rfl, rfl⟩
    ((conv => whnf); (repeat (((refine Exists.intro _ (And.intro (by ((conv => whnf); (repeat ((refine And.intro (by exact rfl) ?_); (conv => whnf))))) ?_)); (conv => whnf)))))
    refine AC.frame (refimage_ok w.pre hl) [] (by (repeat' (exact True.intro))) (by rfl) (by (repeat' (first | exact True.intro | refine And.intro ?_ ?_))) (by rfl) ?_
    rintro r0 hp0 ⟨rfl, rfl⟩
    ((conv => whnf); (repeat (first | ((with_reducible (refine And.intro (show Go.Aw.againsK _ _ _ _ _ from ?_) ?_)); (focus (repeat' (first | ((with_reducible (show Go.Aw.againsK _ _ _ _ _)); (conv => whnf)) | ((with_reducible (show Go.Aw.againK _ _ _ _ _)); (conv => whnf)) | (with_reducible (exact True.intro)) | (with_reducible (refine And.intro ?_ ?_)) | exact rfl | (simp; omega)))); (conv => whnf)) | ((refine Exists.intro _ (And.intro (by ((conv => whnf); (repeat ((refine And.intro (by exact rfl) ?_); (conv => whnf))))) ?_)); (conv => whnf)))))
    by_cases ht : shaL (bytesOfStr w.pre) = s.hash
    · rw [show (shaL (bytesOfStr w.pre) == s.hash) = true by rw [ht]; simp]
      (conv => whnf)
      (refine Turned.of [0, 1, 2] [(3, .ptr 0 0 0 0), (4, .ptr 1 0 0 0), (5, .ptr 2 0 0 0), (7, .bool A), (8, .int .i64 m), (9, .bool B), (10, .bool true)] [⟨38, false, none, .var s.segs⟩, ⟨3, false, none, .var w.segs⟩, ⟨3, false, none, .var c.segs⟩] (by rfl) (by rfl) (by rfl) (by (repeat' (first | exact True.intro | exact rfl | refine And.intro ?_ ?_ | (simp [AV.ren, AV.rens, AObj.ren, Ent.ren, AV.inn, AV.inns, AObj.inn, *]; done)))) (by (repeat' (first | exact True.intro | exact rfl | refine And.intro ?_ ?_ | (simp [AV.ren, AV.rens, AObj.ren, Ent.ren, AV.inn, AV.inns, AObj.inn, *]; done)))) ?_)
      exact ⟨true, by simp [g1, told_yes ht], rfl, rfl⟩
    · rw [show (shaL (bytesOfStr w.pre) == s.hash) = false by simpa using ht]
      (conv => whnf)
      (refine Turned.of [0, 1, 2] [(3, .ptr 0 0 0 0), (4, .ptr 1 0 0 0), (5, .ptr 2 0 0 0), (7, .bool A), (8, .int .i64 m), (9, .bool B), (10, .bool false)] [⟨38, false, none, .var s.segs⟩, ⟨3, false, none, .var w.segs⟩, ⟨3, false, none, .var c.segs⟩] (by rfl) (by rfl) (by rfl) (by (repeat' (first | exact True.intro | exact rfl | refine And.intro ?_ ?_ | (simp [AV.ren, AV.rens, AObj.ren, Ent.ren, AV.inn, AV.inns, AObj.inn, *]; done)))) (by (repeat' (first | exact True.intro | exact rfl | refine And.intro ?_ ?_ | (simp [AV.ren, AV.rens, AObj.ren, Ent.ren, AV.inn, AV.inns, AObj.inn, *]; done)))) ?_)
      exact ⟨false, by simp [g1, told_no ht], rfl, rfl⟩
  rintro fr hp ⟨T, hT, rfl, rfl⟩
  obtain ⟨kd, ky, ot, rv, dl, ex, H⟩ := s
  have h16 : kd = 1 ∨ kd = 2 ∨ kd = 3 ∨ kd = 4 ∨ kd = 5 ∨ kd = 6 := by
    have := hok
    unfold Scr.ok at this
    simp only at this
    omega
  rcases h16 with rfl | rfl | rfl | rfl | rfl | rfl
  all_goals simp only at hA hB hT
  · refine ev_sound tokT (keep := fun _ => true) ?_
    (conv => whnf)
    rcases bool_iff hA with ⟨rfl, hA⟩ | ⟨rfl, hA⟩
    · (conv => whnf); (refine Left.of [] (.bool true) [] (by rfl) (by rfl) (by rfl) (by (repeat' (exact True.intro))) (by rfl) (by (repeat' (exact True.intro))) ?_)
      exact ⟨evs_yes (by rw [evs1 hok rfl]; simp only; omega), rfl⟩
    · (conv => whnf); (refine Left.of [] (.bool false) [] (by rfl) (by rfl) (by rfl) (by (repeat' (exact True.intro))) (by rfl) (by (repeat' (exact True.intro))) ?_)
      exact ⟨evs_no (by rw [evs1 hok rfl]; simp only; omega), rfl⟩
  · refine ev_sound tokT (keep := fun _ => true) ?_
    (conv => whnf)
    rcases bool_iff hA with ⟨rfl, hA⟩ | ⟨rfl, hA⟩
    · (conv => whnf); (cases g1 : (decide (m ≥ (Scr.mk 2 ky ot rv dl ex H).delay) : Bool) <;> (try simp only [beq_iff_eq, beq_eq_false_iff_ne, ne_eq, decide_eq_true_eq, decide_eq_false_iff_not, bne_iff_ne, bne_eq_false_iff_eq, Bool.not_eq_true, Bool.not_eq_false, gt_iff_lt, ge_iff_le] at g1) <;> (try (exfalso; omega)))
      case' true =>
        (conv => whnf); (refine Left.of [] (.bool true) [] (by rfl) (by rfl) (by rfl) (by (repeat' (exact True.intro))) (by rfl) (by (repeat' (exact True.intro))) ?_)
        exact ⟨evs_yes (by rw [evs2 hok rfl]; simp only; omega), rfl⟩
      rcases bool_iff hB with ⟨rfl, hB⟩ | ⟨rfl, hB⟩
      · (conv => whnf); (refine Left.of [] (.bool true) [] (by rfl) (by rfl) (by rfl) (by (repeat' (exact True.intro))) (by rfl) (by (repeat' (exact True.intro))) ?_)
        exact ⟨evs_yes (by rw [evs2 hok rfl]; simp only; omega), rfl⟩
      · (conv => whnf); (refine Left.of [] (.bool false) [] (by rfl) (by rfl) (by rfl) (by (repeat' (exact True.intro))) (by rfl) (by (repeat' (exact True.intro))) ?_)
        exact ⟨evs_no (by rw [evs2 hok rfl]; simp only; omega), rfl⟩
    · rcases bool_iff hB with ⟨rfl, hB⟩ | ⟨rfl, hB⟩
      · (conv => whnf); (refine Left.of [] (.bool true) [] (by rfl) (by rfl) (by rfl) (by (repeat' (exact True.intro))) (by rfl) (by (repeat' (exact True.intro))) ?_)
        exact ⟨evs_yes (by rw [evs2 hok rfl]; simp only; omega), rfl⟩
      · (conv => whnf); (refine Left.of [] (.bool false) [] (by rfl) (by rfl) (by rfl) (by (repeat' (exact True.intro))) (by rfl) (by (repeat' (exact True.intro))) ?_)
        exact ⟨evs_no (by rw [evs2 hok rfl]; simp only; omega), rfl⟩
  · refine ev_sound tokT (keep := fun _ => true) ?_
    (conv => whnf)
    rcases bool_iff hA with ⟨rfl, hA⟩ | ⟨rfl, hA⟩
    · (conv => whnf); (refine Left.of [] (.bool (decide (m ≥ 1))) [] (by rfl) (by rfl) (by rfl) (by (repeat' (exact True.intro))) (by rfl) (by (repeat' (exact True.intro))) ?_)
      exact ⟨evs_dec (by rw [evs3 hok rfl]; simp only; omega), rfl⟩
    · (conv => whnf); (refine Left.of [] (.bool false) [] (by rfl) (by rfl) (by rfl) (by (repeat' (exact True.intro))) (by rfl) (by (repeat' (exact True.intro))) ?_)
      exact ⟨evs_no (by rw [evs3 hok rfl]; simp only; omega), rfl⟩
  · refine ev_sound tokT (keep := fun _ => true) ?_
    (conv => whnf)
    rcases bool_iff hA with ⟨rfl, hA⟩ | ⟨rfl, hA⟩
    · (conv => whnf); (refine Left.of [] (.bool true) [] (by rfl) (by rfl) (by rfl) (by (repeat' (exact True.intro))) (by rfl) (by (repeat' (exact True.intro))) ?_)
      exact ⟨evs_yes (by rw [evs4 hok rfl]; simp only; omega), rfl⟩
    · (conv => whnf); (cases g1 : (w.kind == 4 : Bool) <;> (try simp only [beq_iff_eq, beq_eq_false_iff_ne, ne_eq, decide_eq_true_eq, decide_eq_false_iff_not, bne_iff_ne, bne_eq_false_iff_eq, Bool.not_eq_true, Bool.not_eq_false, gt_iff_lt, ge_iff_le] at g1) <;> (try (exfalso; omega)))
      case' true =>
        (conv => whnf); (refine Left.of [] (.bool (decide (m ≥ 16))) [] (by rfl) (by rfl) (by rfl) (by (repeat' (exact True.intro))) (by rfl) (by (repeat' (exact True.intro))) ?_)
        exact ⟨evs_dec (by rw [evs4 hok rfl]; simp only; omega), rfl⟩
      (conv => whnf); (refine Left.of [] (.bool false) [] (by rfl) (by rfl) (by rfl) (by (repeat' (exact True.intro))) (by rfl) (by (repeat' (exact True.intro))) ?_)
      exact ⟨evs_no (by rw [evs4 hok rfl]; simp only; omega), rfl⟩
  · refine ev_sound tokT (keep := fun _ => true) ?_
    (conv => whnf)
    rcases bool_iff hA with ⟨rfl, hA⟩ | ⟨rfl, hA⟩
    · (conv => whnf); (cases g1 : (decide (c.lock ≥ (Scr.mk 5 ky ot rv dl ex H).expiry) : Bool) <;> (try simp only [beq_iff_eq, beq_eq_false_iff_ne, ne_eq, decide_eq_true_eq, decide_eq_false_iff_not, bne_iff_ne, bne_eq_false_iff_eq, Bool.not_eq_true, Bool.not_eq_false, gt_iff_lt, ge_iff_le] at g1) <;> (try (exfalso; omega)))
      case' true =>
        (conv => whnf); (refine Left.of [] (.bool true) [] (by rfl) (by rfl) (by rfl) (by (repeat' (exact True.intro))) (by rfl) (by (repeat' (exact True.intro))) ?_)
        exact ⟨evs_yes (by rw [evs5 hok rfl]; simp only; omega), rfl⟩
      rcases bool_iff hT with ⟨rfl, hT⟩ | ⟨rfl, hT⟩
      · exfalso; omega
      · rcases bool_iff hB with ⟨rfl, hB⟩ | ⟨rfl, hB⟩
        · (conv => whnf); (refine Left.of [] (.bool true) [] (by rfl) (by rfl) (by rfl) (by (repeat' (exact True.intro))) (by rfl) (by (repeat' (exact True.intro))) ?_)
          exact ⟨evs_yes (by rw [evs5 hok rfl]; simp only; omega), rfl⟩
        · (conv => whnf); (refine Left.of [] (.bool false) [] (by rfl) (by rfl) (by rfl) (by (repeat' (exact True.intro))) (by rfl) (by (repeat' (exact True.intro))) ?_)
          exact ⟨evs_no (by rw [evs5 hok rfl]; simp only; omega), rfl⟩
    · rcases bool_iff hT with ⟨rfl, hT⟩ | ⟨rfl, hT⟩
      · (conv => whnf); (cases g2 : (w.key == (Scr.mk 5 ky ot rv dl ex H).other : Bool) <;> (try simp only [beq_iff_eq, beq_eq_false_iff_ne, ne_eq, decide_eq_true_eq, decide_eq_false_iff_not, bne_iff_ne, bne_eq_false_iff_eq, Bool.not_eq_true, Bool.not_eq_false, gt_iff_lt, ge_iff_le] at g2) <;> (try (exfalso; omega)))
        case' true =>
          (conv => whnf); (refine Left.of [] (.bool true) [] (by rfl) (by rfl) (by rfl) (by (repeat' (exact True.intro))) (by rfl) (by (repeat' (exact True.intro))) ?_)
          exact ⟨evs_yes (by rw [evs5 hok rfl]; simp only; omega), rfl⟩
        rcases bool_iff hB with ⟨rfl, hB⟩ | ⟨rfl, hB⟩
        · (conv => whnf); (refine Left.of [] (.bool true) [] (by rfl) (by rfl) (by rfl) (by (repeat' (exact True.intro))) (by rfl) (by (repeat' (exact True.intro))) ?_)
          exact ⟨evs_yes (by rw [evs5 hok rfl]; simp only; omega), rfl⟩
        · (conv => whnf); (refine Left.of [] (.bool false) [] (by rfl) (by rfl) (by rfl) (by (repeat' (exact True.intro))) (by rfl) (by (repeat' (exact True.intro))) ?_)
          exact ⟨evs_no (by rw [evs5 hok rfl]; simp only; omega), rfl⟩
      · rcases bool_iff hB with ⟨rfl, hB⟩ | ⟨rfl, hB⟩
        · (conv => whnf); (refine Left.of [] (.bool true) [] (by rfl) (by rfl) (by rfl) (by (repeat' (exact True.intro))) (by rfl) (by (repeat' (exact True.intro))) ?_)
          exact ⟨evs_yes (by rw [evs5 hok rfl]; simp only; omega), rfl⟩
        · (conv => whnf); (refine Left.of [] (.bool false) [] (by rfl) (by rfl) (by rfl) (by (repeat' (exact True.intro))) (by rfl) (by (repeat' (exact True.intro))) ?_)
          exact ⟨evs_no (by rw [evs5 hok rfl]; simp only; omega), rfl⟩
  · refine ev_sound tokT (keep := fun _ => true) ?_
    (conv => whnf)
    rcases bool_iff hT with ⟨rfl, hT⟩ | ⟨rfl, hT⟩
    · (conv => whnf); (cases g2 : (w.key == (Scr.mk 6 ky ot rv dl ex H).key : Bool) <;> (try simp only [beq_iff_eq, beq_eq_false_iff_ne, ne_eq, decide_eq_true_eq, decide_eq_false_iff_not, bne_iff_ne, bne_eq_false_iff_eq, Bool.not_eq_true, Bool.not_eq_false, gt_iff_lt, ge_iff_le] at g2) <;> (try (exfalso; omega)))
      case' true =>
        (conv => whnf); (refine Left.of [] (.bool true) [] (by rfl) (by rfl) (by rfl) (by (repeat' (exact True.intro))) (by rfl) (by (repeat' (exact True.intro))) ?_)
        exact ⟨evs_yes (by rw [evs6 hok rfl]; simp only; omega), rfl⟩
      (conv => whnf); (cases g3 : (w.kind == 1 : Bool) <;> (try simp only [beq_iff_eq, beq_eq_false_iff_ne, ne_eq, decide_eq_true_eq, decide_eq_false_iff_not, bne_iff_ne, bne_eq_false_iff_eq, Bool.not_eq_true, Bool.not_eq_false, gt_iff_lt, ge_iff_le] at g3) <;> (try (exfalso; omega)))
      rcases bool_iff hB with ⟨rfl, hB⟩ | ⟨rfl, hB⟩
      · exfalso; omega
      · (conv => whnf); (refine Left.of [] (.bool false) [] (by rfl) (by rfl) (by rfl) (by (repeat' (exact True.intro))) (by rfl) (by (repeat' (exact True.intro))) ?_)
        exact ⟨evs_no (by rw [evs6 hok rfl]; simp only; omega), rfl⟩
    · (conv => whnf); (cases g3 : (w.kind == 1 : Bool) <;> (try simp only [beq_iff_eq, beq_eq_false_iff_ne, ne_eq, decide_eq_true_eq, decide_eq_false_iff_not, bne_iff_ne, bne_eq_false_iff_eq, Bool.not_eq_true, Bool.not_eq_false, gt_iff_lt, ge_iff_le] at g3) <;> (try (exfalso; omega)))
      case' true =>
        (conv => whnf); (cases g4 : (w.key == (Scr.mk 6 ky ot rv dl ex H).other : Bool) <;> (try simp only [beq_iff_eq, beq_eq_false_iff_ne, ne_eq, decide_eq_true_eq, decide_eq_false_iff_not, bne_iff_ne, bne_eq_false_iff_eq, Bool.not_eq_true, Bool.not_eq_false, gt_iff_lt, ge_iff_le] at g4) <;> (try (exfalso; omega)))
        case' true =>
          (conv => whnf); (cases g5 : (decide (c.lock ≥ (Scr.mk 6 ky ot rv dl ex H).expiry) : Bool) <;> (try simp only [beq_iff_eq, beq_eq_false_iff_ne, ne_eq, decide_eq_true_eq, decide_eq_false_iff_not, bne_iff_ne, bne_eq_false_iff_eq, Bool.not_eq_true, Bool.not_eq_false, gt_iff_lt, ge_iff_le] at g5) <;> (try (exfalso; omega)))
          case' true =>
            (conv => whnf); (refine Left.of [] (.bool true) [] (by rfl) (by rfl) (by rfl) (by (repeat' (exact True.intro))) (by rfl) (by (repeat' (exact True.intro))) ?_)
            exact ⟨evs_yes (by rw [evs6 hok rfl]; simp only; omega), rfl⟩
          rcases bool_iff hB with ⟨rfl, hB⟩ | ⟨rfl, hB⟩
          · (conv => whnf); (refine Left.of [] (.bool true) [] (by rfl) (by rfl) (by rfl) (by (repeat' (exact True.intro))) (by rfl) (by (repeat' (exact True.intro))) ?_)
            exact ⟨evs_yes (by rw [evs6 hok rfl]; simp only; omega), rfl⟩
          · (conv => whnf); (refine Left.of [] (.bool false) [] (by rfl) (by rfl) (by rfl) (by (repeat' (exact True.intro))) (by rfl) (by (repeat' (exact True.intro))) ?_)
            exact ⟨evs_no (by rw [evs6 hok rfl]; simp only; omega), rfl⟩
        rcases bool_iff hB with ⟨rfl, hB⟩ | ⟨rfl, hB⟩
        · (conv => whnf); (refine Left.of [] (.bool true) [] (by rfl) (by rfl) (by rfl) (by (repeat' (exact True.intro))) (by rfl) (by (repeat' (exact True.intro))) ?_)
          exact ⟨evs_yes (by rw [evs6 hok rfl]; simp only; omega), rfl⟩
        · (conv => whnf); (refine Left.of [] (.bool false) [] (by rfl) (by rfl) (by rfl) (by (repeat' (exact True.intro))) (by rfl) (by (repeat' (exact True.intro))) ?_)
          exact ⟨evs_no (by rw [evs6 hok rfl]; simp only; omega), rfl⟩
      rcases bool_iff hB with ⟨rfl, hB⟩ | ⟨rfl, hB⟩
      · (conv => whnf); (refine Left.of [] (.bool true) [] (by rfl) (by rfl) (by rfl) (by (repeat' (exact True.intro))) (by rfl) (by (repeat' (exact True.intro))) ?_)
        exact ⟨evs_yes (by rw [evs6 hok rfl]; simp only; omega), rfl⟩
      · (conv => whnf); (refine Left.of [] (.bool false) [] (by rfl) (by rfl) (by rfl) (by (repeat' (exact True.intro))) (by rfl) (by (repeat' (exact True.intro))) ?_)
        exact ⟨evs_no (by rw [evs6 hok rfl]; simp only; omega), rfl⟩
end Go.Aw
