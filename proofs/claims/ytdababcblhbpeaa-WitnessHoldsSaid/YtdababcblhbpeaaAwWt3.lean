/-
  AwWt3: what is fixed of witnesses; the law WitnessRipens. Own work.
-/
import Derived.Test.YtdababcblhbpeaaAwWt2
set_option linter.unusedVariables false
set_option linter.unusedSimpArgs false
set_option maxRecDepth 20000
open Go.Proofs
namespace Go.Aw

theorem mine_no (s : Scr) (k : Keys3) (pre : List UInt8) (hl : pre.length ≤ 4294967296) :
    AC Try.prog 49 [s.av, k.av, .str pre, .bool false] [] (fun r hp' => r = outC (mineC s k pre false) (mineE s k pre false) ∧ hp' = []) := mine_ok s k pre false hl

abbrev exS : Scr := ⟨2, 2, 0, 3, 5, 0, List.replicate 32 0⟩
theorem exS_ok : exS.ok := by unfold Scr.ok; simp
theorem ex_mine2 : mineC exS ⟨0, 2, 0⟩ [] false = ⟨⟨1, 2, []⟩, 5, 0, 5⟩ ∧ mineE exS ⟨0, 2, 0⟩ [] false = 0 := by
  unfold mineC mineE; rw [mineP_ok exS_ok]; simp [mineK]
theorem ex_mine9 : mineC exS ⟨0, 9, 0⟩ [] false = zeroC ∧ mineE exS ⟨0, 9, 0⟩ [] false = 5 := by
  unfold mineC mineE; rw [mineP_ok exS_ok]; simp [mineK]
theorem ex_jus : jusC exS ⟨0, 0, 3⟩ = ⟨⟨3, 3, []⟩, 0, 0, 0⟩ ∧ jusE exS ⟨0, 0, 3⟩ = 0 := by
  have g : jusB exS ⟨0, 0, 3⟩ = true := jusB_true.2 ⟨exS_ok, Or.inl rfl, rfl⟩
  unfold jusC jusE; rw [g]; exact ⟨rfl, rfl⟩

set_option maxHeartbeats 1000000 in
theorem awake14_ok : AC Try.prog 46 [] [] (fun r hp' => r = .bool true ∧ hp' = []) := by
  refine AC.left (AC.body tokT Try.func46 rfl rfl rfl (by decide) (by rfl) ?_)
  refine AW.pre tokT (fun _ => true) ?_; (conv => whnf)
  refine AW.pre tokT (fun _ => true) ?_; (conv => whnf)
  refine AW.pre tokT (fun _ => true) ?_; (conv => whnf)
  refine AC.frame (mine_no exS ⟨0, 2, 0⟩ [] (by decide)) [] (by (repeat' (exact True.intro))) (by rfl) (by (repeat' (first | exact True.intro | refine And.intro ?_ ?_))) (by rfl) ?_
  rintro r0 hp0 ⟨rfl, rfl⟩
  rw [ex_mine2.1, ex_mine2.2]
  (conv => whnf)
  refine AW.pre tokT (fun _ => true) ?_; (conv => whnf)
  refine AC.frame (justice_ok exS ⟨0, 0, 3⟩) [] (by (repeat' (exact True.intro))) (by rfl) (by (repeat' (first | exact True.intro | refine And.intro ?_ ?_))) (by rfl) ?_
  rintro r0 hp0 ⟨rfl, rfl⟩
  rw [ex_jus.1, ex_jus.2]
  (conv => whnf)
  refine AW.pre tokT (fun _ => true) ?_; (conv => whnf)
  refine AC.frame (mine_no exS ⟨0, 9, 0⟩ [] (by decide)) [] (by (repeat' (exact True.intro))) (by rfl) (by (repeat' (first | exact True.intro | refine And.intro ?_ ?_))) (by rfl) ?_
  rintro r0 hp0 ⟨rfl, rfl⟩
  rw [ex_mine9.1, ex_mine9.2]
  (conv => whnf)
  refine ev_sound tokT (keep := fun _ => true) ?_
  (conv => whnf)
  refine AC.frame (rip_ok ⟨⟨1, 2, []⟩, 5, 0, 5⟩ 10) [] (by (repeat' (exact True.intro))) (by rfl) (by (repeat' (first | exact True.intro | refine And.intro ?_ ?_))) (by rfl) ?_
  rintro r0 hp0 ⟨rfl, rfl⟩
  rw [show ripI ⟨⟨1, 2, []⟩, 5, 0, 5⟩ 10 = 15 by decide]
  (conv => whnf)
  refine AC.frame (ripe_ok ⟨⟨1, 2, []⟩, 5, 0, 5⟩ 10 14) [] (by (repeat' (exact True.intro))) (by rfl) (by (repeat' (first | exact True.intro | refine And.intro ?_ ?_))) (by rfl) ?_
  rintro r0 hp0 ⟨rfl, rfl⟩
  rw [show decide ((14 : Int) ≥ ripI ⟨⟨1, 2, []⟩, 5, 0, 5⟩ 10) = false by decide]
  (conv => whnf)
  refine AC.frame (rip_ok ⟨⟨3, 3, []⟩, 0, 0, 0⟩ 10) [] (by (repeat' (exact True.intro))) (by rfl) (by (repeat' (first | exact True.intro | refine And.intro ?_ ?_))) (by rfl) ?_
  rintro r0 hp0 ⟨rfl, rfl⟩
  rw [show ripI ⟨⟨3, 3, []⟩, 0, 0, 0⟩ 10 = 11 by decide]
  (conv => whnf)
  (refine Left.of [] (.bool true) [] (by rfl) (by rfl) (by rfl) (by (repeat' (exact True.intro))) (by rfl) (by (repeat' (exact True.intro))) ?_)
  exact ⟨rfl, rfl⟩

set_option maxHeartbeats 1000000 in
theorem ripens_law (conf wait lock next : Int) : AC Try.prog 12 [.int .i64 conf, .int .i64 wait, .int .i64 lock, .int .i64 next] [] (fun r hp' => r = .bool true ∧ hp' = []) := by
  refine AC.left (AC.body tokT Try.func12 rfl rfl rfl (by decide) (by rfl) ?_)
  refine AW.pre tokT (fun _ => true) ?_; (conv => whnf)
  refine AW.cutT (fun fr hp => (0 ≤ conf ∧ conf ≤ 1073741824 ∧ 0 ≤ wait ∧ wait ≤ 1073741824 ∧ 0 ≤ lock ∧ lock ≤ 1073741824) ∧ fr = [(0, .int .i64 conf), (1, .int .i64 wait), (2, .int .i64 lock), (3, .int .i64 next)] ∧ hp = []) ?_ ?_
  · refine ev_sound tokT (keep := fun _ => true) ?_
    (conv => whnf); (cases c1 : (decide (conf < 0) : Bool) <;> (try simp only [beq_iff_eq, beq_eq_false_iff_ne, ne_eq, decide_eq_true_eq, decide_eq_false_iff_not, bne_iff_ne, bne_eq_false_iff_eq, Bool.not_eq_true, Bool.not_eq_false, gt_iff_lt, ge_iff_le] at c1) <;> (try (exfalso; omega)))
    case' true =>
      (conv => whnf)
      refine AC.pure awake14_ok (by (repeat' (exact True.intro))) (by (repeat' (exact True.intro))) ?_
      (conv => whnf); (refine Left.of [] (.bool true) [] (by rfl) (by rfl) (by rfl) (by (repeat' (exact True.intro))) (by rfl) (by (repeat' (exact True.intro))) ?_)
      exact ⟨rfl, rfl⟩
    (conv => whnf); (cases c2 : (decide (conf > 1073741824) : Bool) <;> (try simp only [beq_iff_eq, beq_eq_false_iff_ne, ne_eq, decide_eq_true_eq, decide_eq_false_iff_not, bne_iff_ne, bne_eq_false_iff_eq, Bool.not_eq_true, Bool.not_eq_false, gt_iff_lt, ge_iff_le] at c2) <;> (try (exfalso; omega)))
    case' true =>
      (conv => whnf)
      refine AC.pure awake14_ok (by (repeat' (exact True.intro))) (by (repeat' (exact True.intro))) ?_
      (conv => whnf); (refine Left.of [] (.bool true) [] (by rfl) (by rfl) (by rfl) (by (repeat' (exact True.intro))) (by rfl) (by (repeat' (exact True.intro))) ?_)
      exact ⟨rfl, rfl⟩
    (conv => whnf); (cases c3 : (decide (wait < 0) : Bool) <;> (try simp only [beq_iff_eq, beq_eq_false_iff_ne, ne_eq, decide_eq_true_eq, decide_eq_false_iff_not, bne_iff_ne, bne_eq_false_iff_eq, Bool.not_eq_true, Bool.not_eq_false, gt_iff_lt, ge_iff_le] at c3) <;> (try (exfalso; omega)))
    case' true =>
      (conv => whnf)
      refine AC.pure awake14_ok (by (repeat' (exact True.intro))) (by (repeat' (exact True.intro))) ?_
      (conv => whnf); (refine Left.of [] (.bool true) [] (by rfl) (by rfl) (by rfl) (by (repeat' (exact True.intro))) (by rfl) (by (repeat' (exact True.intro))) ?_)
      exact ⟨rfl, rfl⟩
    (conv => whnf); (cases c4 : (decide (wait > 1073741824) : Bool) <;> (try simp only [beq_iff_eq, beq_eq_false_iff_ne, ne_eq, decide_eq_true_eq, decide_eq_false_iff_not, bne_iff_ne, bne_eq_false_iff_eq, Bool.not_eq_true, Bool.not_eq_false, gt_iff_lt, ge_iff_le] at c4) <;> (try (exfalso; omega)))
    case' true =>
      (conv => whnf)
      refine AC.pure awake14_ok (by (repeat' (exact True.intro))) (by (repeat' (exact True.intro))) ?_
      (conv => whnf); (refine Left.of [] (.bool true) [] (by rfl) (by rfl) (by rfl) (by (repeat' (exact True.intro))) (by rfl) (by (repeat' (exact True.intro))) ?_)
      exact ⟨rfl, rfl⟩
    (conv => whnf); (cases c5 : (decide (lock < 0) : Bool) <;> (try simp only [beq_iff_eq, beq_eq_false_iff_ne, ne_eq, decide_eq_true_eq, decide_eq_false_iff_not, bne_iff_ne, bne_eq_false_iff_eq, Bool.not_eq_true, Bool.not_eq_false, gt_iff_lt, ge_iff_le] at c5) <;> (try (exfalso; omega)))
    case' true =>
      (conv => whnf)
      refine AC.pure awake14_ok (by (repeat' (exact True.intro))) (by (repeat' (exact True.intro))) ?_
      (conv => whnf); (refine Left.of [] (.bool true) [] (by rfl) (by rfl) (by rfl) (by (repeat' (exact True.intro))) (by rfl) (by (repeat' (exact True.intro))) ?_)
      exact ⟨rfl, rfl⟩
    (conv => whnf); (cases c6 : (decide (lock > 1073741824) : Bool) <;> (try simp only [beq_iff_eq, beq_eq_false_iff_ne, ne_eq, decide_eq_true_eq, decide_eq_false_iff_not, bne_iff_ne, bne_eq_false_iff_eq, Bool.not_eq_true, Bool.not_eq_false, gt_iff_lt, ge_iff_le] at c6) <;> (try (exfalso; omega)))
    case' true =>
      (conv => whnf)
      refine AC.pure awake14_ok (by (repeat' (exact True.intro))) (by (repeat' (exact True.intro))) ?_
      (conv => whnf); (refine Left.of [] (.bool true) [] (by rfl) (by rfl) (by rfl) (by (repeat' (exact True.intro))) (by rfl) (by (repeat' (exact True.intro))) ?_)
      exact ⟨rfl, rfl⟩
    (conv => whnf); (cases c7 : (decide (next < 0) : Bool) <;> (try simp only [beq_iff_eq, beq_eq_false_iff_ne, ne_eq, decide_eq_true_eq, decide_eq_false_iff_not, bne_iff_ne, bne_eq_false_iff_eq, Bool.not_eq_true, Bool.not_eq_false, gt_iff_lt, ge_iff_le] at c7) <;> (try (exfalso; omega)))
    case' true =>
      (conv => whnf)
      refine AC.pure awake14_ok (by (repeat' (exact True.intro))) (by (repeat' (exact True.intro))) ?_
      (conv => whnf); (refine Left.of [] (.bool true) [] (by rfl) (by rfl) (by rfl) (by (repeat' (exact True.intro))) (by rfl) (by (repeat' (exact True.intro))) ?_)
      exact ⟨rfl, rfl⟩
    (conv => whnf); (cases c8 : (decide (next > 1099511627776) : Bool) <;> (try simp only [beq_iff_eq, beq_eq_false_iff_ne, ne_eq, decide_eq_true_eq, decide_eq_false_iff_not, bne_iff_ne, bne_eq_false_iff_eq, Bool.not_eq_true, Bool.not_eq_false, gt_iff_lt, ge_iff_le] at c8) <;> (try (exfalso; omega)))
    case' true =>
      (conv => whnf)
      refine AC.pure awake14_ok (by (repeat' (exact True.intro))) (by (repeat' (exact True.intro))) ?_
      (conv => whnf); (refine Left.of [] (.bool true) [] (by rfl) (by rfl) (by rfl) (by (repeat' (exact True.intro))) (by rfl) (by (repeat' (exact True.intro))) ?_)
      exact ⟨rfl, rfl⟩
    (conv => whnf)
    (refine Turned.of [] [(0, .int .i64 conf), (1, .int .i64 wait), (2, .int .i64 lock), (3, .int .i64 next)] [] (by rfl) (by rfl) (by rfl) (by (repeat' (first | exact True.intro | exact rfl | refine And.intro ?_ ?_))) (by (repeat' (first | exact True.intro | exact rfl | refine And.intro ?_ ?_))) ?_)
    exact ⟨⟨by omega, by omega, by omega, by omega, by omega, by omega⟩, rfl, rfl⟩
  · rintro fr hp ⟨⟨a1, a2, b1, b2, c1, c2⟩, rfl, rfl⟩
    obtain ⟨R, hR⟩ : ∃ R, ripI ⟨⟨0, 0, []⟩, 0, lock, wait⟩ conf = R := ⟨_, rfl⟩
    have hr : R = max (max (conf + wait) (conf + 1)) lock := by
      have h : ∀ n : Int, 0 ≤ n → n ≤ 1073741824 → heldI n = n := fun n p q => by unfold heldI; split <;> (try split) <;> omega
      rw [← hR, ripI_eq, h conf a1 a2, h wait b1 b2, h lock c1 c2]; omega
    have hz : ripI ⟨⟨0, 0, []⟩, 0, 0, 0⟩ conf = conf + 1 := by
      have h : ∀ n : Int, 0 ≤ n → n ≤ 1073741824 → heldI n = n := fun n p q => by unfold heldI; split <;> (try split) <;> omega
      rw [ripI_eq, h conf a1 a2, h 0 (by decide) (by decide)]; omega
    refine AW.pre tokT (fun _ => true) ?_; (conv => whnf)
    refine AW.pre tokT (fun _ => true) ?_; (conv => whnf)
    refine AC.frame (rip_ok ⟨⟨0, 0, []⟩, 0, lock, wait⟩ conf) [] (by (repeat' (exact True.intro))) (by rfl) (by (repeat' (first | exact True.intro | refine And.intro ?_ ?_))) (by rfl) ?_
    rintro r0 hp0 ⟨rfl, rfl⟩
    rw [hR]
    (conv => whnf)
    have w1 : IntKind.i64.wrap (conf + 1) = conf + 1 := IntWalk.i64_in _ (by omega)
    have w2 : IntKind.i64.wrap (conf + wait) = conf + wait := IntWalk.i64_in _ (by omega)
    refine AW.cutT (fun fr hp => fr = [(0, .int .i64 conf), (1, .int .i64 wait), (2, .int .i64 lock), (3, .int .i64 next), (9, .ptr 0 0 0 0), (10, .int .i64 R), (11, .bool true)] ∧ hp = [⟨6, false, none, .var (⟨⟨0, 0, []⟩, 0, lock, wait⟩ : Clm).segs⟩]) ?_ ?_
    · refine ev_sound tokT (keep := fun _ => true) ?_
      (conv => whnf); rw [w1]; (cases g1 : (R == conf + 1 : Bool) <;> (try simp only [beq_iff_eq, beq_eq_false_iff_ne, ne_eq, decide_eq_true_eq, decide_eq_false_iff_not, bne_iff_ne, bne_eq_false_iff_eq, Bool.not_eq_true, Bool.not_eq_false, gt_iff_lt, ge_iff_le] at g1) <;> (try (exfalso; omega)))
      case' true =>
        (conv => whnf)
        (refine Turned.of [0] [(0, .int .i64 conf), (1, .int .i64 wait), (2, .int .i64 lock), (3, .int .i64 next), (9, .ptr 0 0 0 0), (10, .int .i64 R), (11, .bool true)] [⟨6, false, none, .var (⟨⟨0, 0, []⟩, 0, lock, wait⟩ : Clm).segs⟩] (by rfl) (by rfl) (by rfl) (by (repeat' (first | exact True.intro | exact rfl | refine And.intro ?_ ?_ | (simp [AV.ren, AV.rens, AObj.ren, Ent.ren, AV.inn, AV.inns, AObj.inn, *]; done)))) (by (repeat' (first | exact True.intro | exact rfl | refine And.intro ?_ ?_ | (simp [AV.ren, AV.rens, AObj.ren, Ent.ren, AV.inn, AV.inns, AObj.inn, *]; done)))) ?_)
        exact ⟨rfl, rfl⟩
      (conv => whnf); rw [w2]; (cases g2 : (R == conf + wait : Bool) <;> (try simp only [beq_iff_eq, beq_eq_false_iff_ne, ne_eq, decide_eq_true_eq, decide_eq_false_iff_not, bne_iff_ne, bne_eq_false_iff_eq, Bool.not_eq_true, Bool.not_eq_false, gt_iff_lt, ge_iff_le] at g2) <;> (try (exfalso; omega)))
      case' true =>
        (conv => whnf)
        (refine Turned.of [0] [(0, .int .i64 conf), (1, .int .i64 wait), (2, .int .i64 lock), (3, .int .i64 next), (9, .ptr 0 0 0 0), (10, .int .i64 R), (11, .bool true)] [⟨6, false, none, .var (⟨⟨0, 0, []⟩, 0, lock, wait⟩ : Clm).segs⟩] (by rfl) (by rfl) (by rfl) (by (repeat' (first | exact True.intro | exact rfl | refine And.intro ?_ ?_ | (simp [AV.ren, AV.rens, AObj.ren, Ent.ren, AV.inn, AV.inns, AObj.inn, *]; done)))) (by (repeat' (first | exact True.intro | exact rfl | refine And.intro ?_ ?_ | (simp [AV.ren, AV.rens, AObj.ren, Ent.ren, AV.inn, AV.inns, AObj.inn, *]; done)))) ?_)
        exact ⟨rfl, rfl⟩
      (conv => whnf)
      rw [show (R == lock) = true by rw [beq_iff_eq]; omega]
      (refine Turned.of [0] [(0, .int .i64 conf), (1, .int .i64 wait), (2, .int .i64 lock), (3, .int .i64 next), (9, .ptr 0 0 0 0), (10, .int .i64 R), (11, .bool true)] [⟨6, false, none, .var (⟨⟨0, 0, []⟩, 0, lock, wait⟩ : Clm).segs⟩] (by rfl) (by rfl) (by rfl) (by (repeat' (first | exact True.intro | exact rfl | refine And.intro ?_ ?_ | (simp [AV.ren, AV.rens, AObj.ren, Ent.ren, AV.inn, AV.inns, AObj.inn, *]; done)))) (by (repeat' (first | exact True.intro | exact rfl | refine And.intro ?_ ?_ | (simp [AV.ren, AV.rens, AObj.ren, Ent.ren, AV.inn, AV.inns, AObj.inn, *]; done)))) ?_)
      exact ⟨rfl, rfl⟩
    · rintro fr hp ⟨rfl, rfl⟩
      refine ev_sound tokT (keep := fun _ => true) ?_
      (conv => whnf)
      rw [w1, show decide (R ≥ conf + 1) = true by rw [decide_eq_true_eq]; omega]
      (conv => whnf)
      rw [w2, show decide (R ≥ conf + wait) = true by rw [decide_eq_true_eq]; omega]
      (conv => whnf)
      rw [show decide (R ≥ lock) = true by rw [decide_eq_true_eq]; omega]
      (conv => whnf)
      refine AC.frame (ripe_ok ⟨⟨0, 0, []⟩, 0, lock, wait⟩ conf next) [] (by (repeat' (exact True.intro))) (by rfl) (by (repeat' (first | exact True.intro | refine And.intro ?_ ?_))) (by rfl) ?_
      rintro r0 hp0 ⟨rfl, rfl⟩
      rw [hR]
      (conv => whnf)
      rw [beq_self_eq_true]
      (conv => whnf)
      refine AC.frame (rip_ok ⟨⟨0, 0, []⟩, 0, 0, 0⟩ conf) [] (by (repeat' (exact True.intro))) (by rfl) (by (repeat' (first | exact True.intro | refine And.intro ?_ ?_))) (by rfl) ?_
      rintro r0 hp0 ⟨rfl, rfl⟩
      rw [hz]
      (conv => whnf)
      rw [w1, beq_self_eq_true]
      (conv => whnf)
      refine AC.pure awake14_ok (by (repeat' (exact True.intro))) (by (repeat' (exact True.intro))) ?_
      (conv => whnf); (refine Left.of [] (.bool true) [] (by rfl) (by rfl) (by rfl) (by (repeat' (exact True.intro))) (by rfl) (by (repeat' (exact True.intro))) ?_)
      exact ⟨rfl, rfl⟩
end Go.Aw
