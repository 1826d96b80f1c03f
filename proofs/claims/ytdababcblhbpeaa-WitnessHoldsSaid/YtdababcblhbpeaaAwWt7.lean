/-
  AwWt7: the law WitnessHolds. Own work.
-/
import Derived.Test.YtdababcblhbpeaaAwWt6
set_option linter.unusedVariables false
set_option linter.unusedSimpArgs false
set_option maxRecDepth 20000
open Go.Proofs
namespace Go.Aw

theorem mineC_pre (s : Scr) (k : Keys3) (pre : List UInt8) (kn : Bool) : (mineC s k pre kn).wit.pre.length ≤ pre.length := by
  unfold mineC mineP mineK
  split
  · repeat' split
    all_goals simp
  · simp
theorem jusC_pre (s : Scr) (k : Keys3) : (jusC s k).wit.pre = [] := by
  unfold jusC; cases jusB s k <;> rfl

set_option maxHeartbeats 2000000 in
theorem holds_law (s : Scr) (k : Keys3) (pre : List UInt8) (known : Bool) (conf late : Int) :
    AC Try.prog 14 [s.av, k.av, .str pre, .bool known, .int .i64 conf, .int .i64 late] [] (fun r hp' => r = .bool true ∧ hp' = []) := by
  refine AC.left (AC.body tokT Try.func14 rfl rfl rfl (by decide) (by rfl) ?_)
  refine AW.pre tokT (fun _ => true) ?_; (conv => whnf)
  refine AW.cutT (fun fr hp => (pre.length ≤ 64 ∧ 0 ≤ conf ∧ conf ≤ 500000 ∧ 0 ≤ late ∧ late ≤ 1000) ∧ fr = [(2, .str pre), (3, .bool known), (4, .int .i64 conf), (5, .int .i64 late), (6, .ptr 0 0 0 0), (7, .ptr 1 0 0 0)] ∧ hp = [⟨38, false, none, .var s.segs⟩, ⟨3, false, none, .var [.int .i64 k.wallet, .int .i64 k.own, .int .i64 k.rev]⟩]) ?_ ?_
  · refine ev_sound tokT (keep := fun _ => true) ?_
    (conv => whnf); (cases g1 : (decide ((↑pre.length : Int) > 64) : Bool) <;> (try simp only [beq_iff_eq, beq_eq_false_iff_ne, ne_eq, decide_eq_true_eq, decide_eq_false_iff_not, bne_iff_ne, bne_eq_false_iff_eq, Bool.not_eq_true, Bool.not_eq_false, gt_iff_lt, ge_iff_le] at g1) <;> (try (exfalso; omega)))
    case' true =>
      (conv => whnf)
      refine AC.pure awake14_ok (by (repeat' (exact True.intro))) (by (repeat' (exact True.intro))) ?_
      (conv => whnf); (refine Left.of [] (.bool true) [] (by rfl) (by rfl) (by rfl) (by (repeat' (exact True.intro))) (by rfl) (by (repeat' (exact True.intro))) ?_)
      exact ⟨rfl, rfl⟩
    (conv => whnf); (cases g2 : (decide (conf < 0) : Bool) <;> (try simp only [beq_iff_eq, beq_eq_false_iff_ne, ne_eq, decide_eq_true_eq, decide_eq_false_iff_not, bne_iff_ne, bne_eq_false_iff_eq, Bool.not_eq_true, Bool.not_eq_false, gt_iff_lt, ge_iff_le] at g2) <;> (try (exfalso; omega)))
    case' true =>
      (conv => whnf)
      refine AC.pure awake14_ok (by (repeat' (exact True.intro))) (by (repeat' (exact True.intro))) ?_
      (conv => whnf); (refine Left.of [] (.bool true) [] (by rfl) (by rfl) (by rfl) (by (repeat' (exact True.intro))) (by rfl) (by (repeat' (exact True.intro))) ?_)
      exact ⟨rfl, rfl⟩
    (conv => whnf); (cases g3 : (decide (conf > 500000) : Bool) <;> (try simp only [beq_iff_eq, beq_eq_false_iff_ne, ne_eq, decide_eq_true_eq, decide_eq_false_iff_not, bne_iff_ne, bne_eq_false_iff_eq, Bool.not_eq_true, Bool.not_eq_false, gt_iff_lt, ge_iff_le] at g3) <;> (try (exfalso; omega)))
    case' true =>
      (conv => whnf)
      refine AC.pure awake14_ok (by (repeat' (exact True.intro))) (by (repeat' (exact True.intro))) ?_
      (conv => whnf); (refine Left.of [] (.bool true) [] (by rfl) (by rfl) (by rfl) (by (repeat' (exact True.intro))) (by rfl) (by (repeat' (exact True.intro))) ?_)
      exact ⟨rfl, rfl⟩
    (conv => whnf); (cases g4 : (decide (late < 0) : Bool) <;> (try simp only [beq_iff_eq, beq_eq_false_iff_ne, ne_eq, decide_eq_true_eq, decide_eq_false_iff_not, bne_iff_ne, bne_eq_false_iff_eq, Bool.not_eq_true, Bool.not_eq_false, gt_iff_lt, ge_iff_le] at g4) <;> (try (exfalso; omega)))
    case' true =>
      (conv => whnf)
      refine AC.pure awake14_ok (by (repeat' (exact True.intro))) (by (repeat' (exact True.intro))) ?_
      (conv => whnf); (refine Left.of [] (.bool true) [] (by rfl) (by rfl) (by rfl) (by (repeat' (exact True.intro))) (by rfl) (by (repeat' (exact True.intro))) ?_)
      exact ⟨rfl, rfl⟩
    (conv => whnf); (cases g5 : (decide (late > 1000) : Bool) <;> (try simp only [beq_iff_eq, beq_eq_false_iff_ne, ne_eq, decide_eq_true_eq, decide_eq_false_iff_not, bne_iff_ne, bne_eq_false_iff_eq, Bool.not_eq_true, Bool.not_eq_false, gt_iff_lt, ge_iff_le] at g5) <;> (try (exfalso; omega)))
    case' true =>
      (conv => whnf)
      refine AC.pure awake14_ok (by (repeat' (exact True.intro))) (by (repeat' (exact True.intro))) ?_
      (conv => whnf); (refine Left.of [] (.bool true) [] (by rfl) (by rfl) (by rfl) (by (repeat' (exact True.intro))) (by rfl) (by (repeat' (exact True.intro))) ?_)
      exact ⟨rfl, rfl⟩
    (conv => whnf); (cases g6 : (known : Bool) <;> (try simp only [beq_iff_eq, beq_eq_false_iff_ne, ne_eq, decide_eq_true_eq, decide_eq_false_iff_not, bne_iff_ne, bne_eq_false_iff_eq, Bool.not_eq_true, Bool.not_eq_false, gt_iff_lt, ge_iff_le] at g6) <;> (try (exfalso; omega)))
    case' true =>
      (conv => whnf); (cases g7 : (pre == (ByteArray.mk #[]).data.toList : Bool) <;> (try simp only [beq_iff_eq, beq_eq_false_iff_ne, ne_eq, decide_eq_true_eq, decide_eq_false_iff_not, bne_iff_ne, bne_eq_false_iff_eq, Bool.not_eq_true, Bool.not_eq_false, gt_iff_lt, ge_iff_le] at g7) <;> (try (exfalso; omega)))
      case' true =>
        (conv => whnf)
        refine AC.pure awake14_ok (by (repeat' (exact True.intro))) (by (repeat' (exact True.intro))) ?_
        (conv => whnf); (refine Left.of [] (.bool true) [] (by rfl) (by rfl) (by rfl) (by (repeat' (exact True.intro))) (by rfl) (by (repeat' (exact True.intro))) ?_)
        exact ⟨rfl, rfl⟩
      (conv => whnf)
    case' false =>
      (conv => whnf)
    all_goals
      (refine Turned.of [0, 1] [(2, .str pre), (3, .bool known), (4, .int .i64 conf), (5, .int .i64 late), (6, .ptr 0 0 0 0), (7, .ptr 1 0 0 0)] [⟨38, false, none, .var s.segs⟩, ⟨3, false, none, .var [.int .i64 k.wallet, .int .i64 k.own, .int .i64 k.rev]⟩] (by rfl) (by rfl) (by rfl) (by (repeat' (first | exact True.intro | exact rfl | refine And.intro ?_ ?_ | (simp [AV.ren, AV.rens, AObj.ren, Ent.ren, AV.inn, AV.inns, AObj.inn, *]; done)))) (by (repeat' (first | exact True.intro | exact rfl | refine And.intro ?_ ?_ | (simp [AV.ren, AV.rens, AObj.ren, Ent.ren, AV.inn, AV.inns, AObj.inn, *]; done)))) ?_)
      exact ⟨⟨by omega, by omega, by omega, by omega, by omega⟩, by rw [g6], rfl⟩
  rintro fr hp ⟨⟨hl, hc0, hc1, he0, he1⟩, rfl, rfl⟩
  obtain ⟨kn, hkn0⟩ : ∃ kn, (known && (shaL (bytesOfStr pre) == s.hash)) = kn := ⟨_, rfl⟩
  have hkn : kn = true → toldI s.hash pre = 1 := by
    intro h
    rw [h] at hkn0
    simp only [Bool.and_eq_true, beq_iff_eq] at hkn0
    exact told_yes hkn0.2
  refine AW.cutT (fun fr hp => fr = [(2, .str pre)] ∧ hp = []) ?_ ?_
  · refine AW.pre tokT (fun _ => true) ?_; (conv => whnf)
    refine AW.block ?_
    (refine AW.turnL [0, 1] [(2, .str pre), (3, .bool known), (4, .int .i64 conf), (5, .int .i64 late), (6, .ptr 0 0 0 0), (7, .ptr 1 0 0 0), (13, .int .i64 0)] [⟨38, false, none, .var s.segs⟩, ⟨3, false, none, .var [.int .i64 k.wallet, .int .i64 k.own, .int .i64 k.rev]⟩] (by rfl) (by rfl) (by rfl) (by (repeat' (first | exact True.intro | exact rfl | refine And.intro ?_ ?_ | (simp [AV.ren, AV.rens, AObj.ren, Ent.ren, AV.inn, AV.inns, AObj.inn, *]; done)))) (by (repeat' (first | exact True.intro | exact rfl | refine And.intro ?_ ?_ | (simp [AV.ren, AV.rens, AObj.ren, Ent.ren, AV.inn, AV.inns, AObj.inn, *]; done)))) ?_)
    refine AW.loop (fun q fr hp => ∃ i : Nat, q = 2 - i ∧ i ≤ 2 ∧ fr = [(2, .str pre), (3, .bool known), (4, .int .i64 conf), (5, .int .i64 late), (6, .ptr 0 0 0 0), (7, .ptr 1 0 0 0), (13, .int .i64 (i : Int))] ∧ hp = [⟨38, false, none, .var s.segs⟩, ⟨3, false, none, .var [.int .i64 k.wallet, .int .i64 k.own, .int .i64 k.rev]⟩]) 2 ?_ ?_
    · exact ⟨0, rfl, by omega, rfl, rfl⟩
    · rintro q fr hp ⟨i, rfl, hi, rfl, rfl⟩ -
      refine AW.post ?_
      refine AW.pre tokT (fun _ => true) ?_
      (conv => whnf); (cases hi2 : (decide ((↑i : Int) < 2) : Bool) <;> (try simp only [beq_iff_eq, beq_eq_false_iff_ne, ne_eq, decide_eq_true_eq, decide_eq_false_iff_not, bne_iff_ne, bne_eq_false_iff_eq, Bool.not_eq_true, Bool.not_eq_false, gt_iff_lt, ge_iff_le] at hi2) <;> (try (exfalso; omega)))
      case' false =>
        (conv => whnf)
        (refine Turned.of [] [(2, .str pre)] [] (by rfl) (by rfl) (by rfl) (by (repeat' (first | exact True.intro | exact rfl | refine And.intro ?_ ?_))) (by (repeat' (first | exact True.intro | exact rfl | refine And.intro ?_ ?_))) ?_)
        exact ⟨rfl, rfl⟩
      (conv => whnf)
      refine AW.cutT (fun fr hp => fr = [(2, .str pre), (3, .bool known), (4, .int .i64 conf), (5, .int .i64 late), (6, .ptr 0 0 0 0), (7, .ptr 1 0 0 0), (13, .int .i64 (i : Int))] ∧ hp = [⟨38, false, none, .var s.segs⟩, ⟨3, false, none, .var [.int .i64 k.wallet, .int .i64 k.own, .int .i64 k.rev]⟩]) ?_ ?_
      · refine AW.block ?_
        refine AW.pre tokT (fun _ => true) ?_; (conv => whnf)
        refine AC.frame (mine_ok s k pre known (by omega)) [] (by (repeat' (exact True.intro))) (by rfl) (by (repeat' (first | exact True.intro | refine And.intro ?_ ?_))) (by rfl) ?_
        rintro r0 hp0 ⟨rfl, rfl⟩
        rw [hkn0]
        obtain ⟨M, hM⟩ : ∃ M, mineC s k pre kn = M := ⟨_, rfl⟩
        obtain ⟨N, hN⟩ : ∃ N, mineE s k pre kn = N := ⟨_, rfl⟩
        have hN5 := mineE_or s k pre kn
        have hMl : (mineC s k pre kn).wit.pre.length ≤ 64 := Nat.le_trans (mineC_pre s k pre kn) hl
        rw [hM] at hMl
        have hMH := hol_mine (s := s) (k := k) (pre := pre) (kn := kn) (conf := conf) (extra := late) ⟨hc0, hc1⟩ he0 hkn
        rw [hM, hN]
        rw [hN] at hN5
        rw [hN, hM] at hMH
        (conv => whnf)
        refine AW.cutT (fun fr hp => ∃ (C : Clm) (E : Int), C.wit.pre.length ≤ 64 ∧ (E = 0 ∨ E = 5) ∧ (E = 0 → Hol s k C conf late) ∧ fr = [(2, .str pre), (3, .bool known), (4, .int .i64 conf), (5, .int .i64 late), (6, .ptr 0 0 0 0), (7, .ptr 1 0 0 0), (13, .int .i64 (i : Int)), (14, .ptr 2 0 0 0), (15, .int .i64 E)] ∧ hp = [⟨38, false, none, .var s.segs⟩, ⟨3, false, none, .var [.int .i64 k.wallet, .int .i64 k.own, .int .i64 k.rev]⟩, ⟨6, false, none, .var C.segs⟩]) ?_ ?_
        · refine ev_sound tokT (keep := fun _ => true) ?_
          (conv => whnf); (cases hi1 : ((↑i : Int) == 1 : Bool) <;> (try simp only [beq_iff_eq, beq_eq_false_iff_ne, ne_eq, decide_eq_true_eq, decide_eq_false_iff_not, bne_iff_ne, bne_eq_false_iff_eq, Bool.not_eq_true, Bool.not_eq_false, gt_iff_lt, ge_iff_le] at hi1) <;> (try (exfalso; omega)))
          case' true =>
            (conv => whnf)
            refine AC.frame (justice_ok s k) [] (by (repeat' (exact True.intro))) (by rfl) (by (repeat' (first | exact True.intro | refine And.intro ?_ ?_))) (by rfl) ?_
            rintro r0 hp0 ⟨rfl, rfl⟩
            obtain ⟨J, hJ⟩ : ∃ J, jusC s k = J := ⟨_, rfl⟩
            obtain ⟨L, hL⟩ : ∃ L, jusE s k = L := ⟨_, rfl⟩
            have hL5 := jusE_or s k
            have hJl : (jusC s k).wit.pre.length ≤ 64 := by rw [jusC_pre]; simp
            rw [hJ] at hJl
            have hJH := hol_jus (s := s) (k := k) (conf := conf) (extra := late) ⟨hc0, hc1⟩ he0
            rw [hJ, hL]
            rw [hL] at hL5
            rw [hL, hJ] at hJH
            (conv => whnf)
            (refine Turned.of [0, 1, 2] [(2, .str pre), (3, .bool known), (4, .int .i64 conf), (5, .int .i64 late), (6, .ptr 0 0 0 0), (7, .ptr 1 0 0 0), (13, .int .i64 (i : Int)), (14, .ptr 2 0 0 0), (15, .int .i64 L)] [⟨38, false, none, .var s.segs⟩, ⟨3, false, none, .var [.int .i64 k.wallet, .int .i64 k.own, .int .i64 k.rev]⟩, ⟨6, false, none, .var J.segs⟩] (by rfl) (by rfl) (by rfl) (by (repeat' (first | exact True.intro | exact rfl | refine And.intro ?_ ?_ | (simp [AV.ren, AV.rens, AObj.ren, Ent.ren, AV.inn, AV.inns, AObj.inn, *]; done)))) (by (repeat' (first | exact True.intro | exact rfl | refine And.intro ?_ ?_ | (simp [AV.ren, AV.rens, AObj.ren, Ent.ren, AV.inn, AV.inns, AObj.inn, *]; done)))) ?_)
            exact ⟨J, L, hJl, hL5, hJH, rfl, rfl⟩
          (conv => whnf)
          (refine Turned.of [0, 1, 2] [(2, .str pre), (3, .bool known), (4, .int .i64 conf), (5, .int .i64 late), (6, .ptr 0 0 0 0), (7, .ptr 1 0 0 0), (13, .int .i64 (i : Int)), (14, .ptr 2 0 0 0), (15, .int .i64 N)] [⟨38, false, none, .var s.segs⟩, ⟨3, false, none, .var [.int .i64 k.wallet, .int .i64 k.own, .int .i64 k.rev]⟩, ⟨6, false, none, .var M.segs⟩] (by rfl) (by rfl) (by rfl) (by (repeat' (first | exact True.intro | exact rfl | refine And.intro ?_ ?_ | (simp [AV.ren, AV.rens, AObj.ren, Ent.ren, AV.inn, AV.inns, AObj.inn, *]; done)))) (by (repeat' (first | exact True.intro | exact rfl | refine And.intro ?_ ?_ | (simp [AV.ren, AV.rens, AObj.ren, Ent.ren, AV.inn, AV.inns, AObj.inn, *]; done)))) ?_)
          exact ⟨M, N, hMl, hN5, hMH, rfl, rfl⟩
        · rintro fr hp ⟨C, E, hCl, hE5, hH, rfl, rfl⟩
          rcases hE5 with rfl | rfl
          case inr =>
            refine ev_sound tokT (keep := fun _ => true) ?_
            (conv => whnf)
            (refine Turned.of [0, 1] [(2, .str pre), (3, .bool known), (4, .int .i64 conf), (5, .int .i64 late), (6, .ptr 0 0 0 0), (7, .ptr 1 0 0 0), (13, .int .i64 (i : Int))] [⟨38, false, none, .var s.segs⟩, ⟨3, false, none, .var [.int .i64 k.wallet, .int .i64 k.own, .int .i64 k.rev]⟩] (by rfl) (by rfl) (by rfl) (by (repeat' (first | exact True.intro | exact rfl | refine And.intro ?_ ?_ | (simp [AV.ren, AV.rens, AObj.ren, Ent.ren, AV.inn, AV.inns, AObj.inn, *]; done)))) (by (repeat' (first | exact True.intro | exact rfl | refine And.intro ?_ ?_ | (simp [AV.ren, AV.rens, AObj.ren, Ent.ren, AV.inn, AV.inns, AObj.inn, *]; done)))) ?_)
            exact ⟨rfl, rfl⟩
          obtain ⟨h1, h2, h3, h4, h5, h6⟩ := hH rfl
          obtain ⟨R, hR⟩ : ∃ R, ripI C conf = R := ⟨_, rfl⟩
          have hl2 : C.wit.pre.length ≤ 4294967296 := by omega
          rw [hR] at h1 h2 h4 h5 h6
          refine AW.pre tokT (fun _ => true) ?_; (conv => whnf)
          refine AW.pre tokT (fun _ => true) ?_; (conv => whnf)
          refine AC.frame (rip_ok C conf) [] (by (repeat' (exact True.intro))) (by rfl) (by (repeat' (first | exact True.intro | refine And.intro ?_ ?_))) (by rfl) ?_
          rintro r0 hp0 ⟨rfl, rfl⟩
          rw [hR]; (conv => whnf)
          refine AW.pre tokT (fun _ => true) ?_; (conv => whnf)
          (cases g1 : (decide (R ≤ conf) : Bool) <;> (try simp only [beq_iff_eq, beq_eq_false_iff_ne, ne_eq, decide_eq_true_eq, decide_eq_false_iff_not, bne_iff_ne, bne_eq_false_iff_eq, Bool.not_eq_true, Bool.not_eq_false, gt_iff_lt, ge_iff_le] at g1) <;> (try (exfalso; omega)))
          (conv => whnf)
          refine AC.frame (ent_ok s k C.wit hl2) [] (by (repeat' (exact True.intro))) (by rfl) (by (repeat' (first | exact True.intro | refine And.intro ?_ ?_))) (by rfl) ?_
          rintro r0 hp0 ⟨rfl, rfl⟩
          rw [entB_true.2 h3]; (conv => whnf)
          refine AW.pre tokT (fun _ => true) ?_; (conv => whnf)
          rw [IntWalk.i64_in (R + late) (by omega)]
          refine AW.pre tokT (fun _ => true) ?_; (conv => whnf)
          rw [IntWalk.i64_in (R + late - conf) (by omega)]
          refine AC.frame (eval_b s C.wit ⟨C.seq, R + late - conf, C.lock⟩ hl2) [] (by (repeat' (exact True.intro))) (by rfl) (by (repeat' (first | exact True.intro | refine And.intro ?_ ?_))) (by rfl) ?_
          rintro r0 hp0 ⟨rfl, rfl⟩
          rw [evB_true.2 h4]; (conv => whnf)
          refine AC.frame (ripe_ok C conf (R + late)) [] (by (repeat' (exact True.intro))) (by rfl) (by (repeat' (first | exact True.intro | refine And.intro ?_ ?_))) (by rfl) ?_
          rintro r0 hp0 ⟨rfl, rfl⟩
          rw [hR, decide_eq_true (show R + late ≥ R by omega)]; (conv => whnf)
          (cases g2 : (decide (C.lock > R + late) : Bool) <;> (try simp only [beq_iff_eq, beq_eq_false_iff_ne, ne_eq, decide_eq_true_eq, decide_eq_false_iff_not, bne_iff_ne, bne_eq_false_iff_eq, Bool.not_eq_true, Bool.not_eq_false, gt_iff_lt, ge_iff_le] at g2) <;> (try (exfalso; omega)))
          (conv => whnf)
          refine AW.pre tokT (fun _ => true) ?_; (conv => whnf)
          rw [IntWalk.i64_in (R - 1) (by omega)]
          refine ev_sound tokT (keep := fun _ => true) ?_
          (conv => whnf); (cases g3 : (decide (R - 1 > conf) : Bool) <;> (try simp only [beq_iff_eq, beq_eq_false_iff_ne, ne_eq, decide_eq_true_eq, decide_eq_false_iff_not, bne_iff_ne, bne_eq_false_iff_eq, Bool.not_eq_true, Bool.not_eq_false, gt_iff_lt, ge_iff_le] at g3) <;> (try (exfalso; omega)))
          case' false =>
            (conv => whnf)
            refine AC.frame (ripe_ok C conf (R - 1)) [] (by (repeat' (exact True.intro))) (by rfl) (by (repeat' (first | exact True.intro | refine And.intro ?_ ?_))) (by rfl) ?_
            rintro r0 hp0 ⟨rfl, rfl⟩
            rw [hR, decide_eq_false (show ¬ R - 1 ≥ R by omega)]; (conv => whnf)
            (refine Turned.of [0, 1] [(2, .str pre), (3, .bool known), (4, .int .i64 conf), (5, .int .i64 late), (6, .ptr 0 0 0 0), (7, .ptr 1 0 0 0), (13, .int .i64 (i : Int))] [⟨38, false, none, .var s.segs⟩, ⟨3, false, none, .var [.int .i64 k.wallet, .int .i64 k.own, .int .i64 k.rev]⟩] (by rfl) (by rfl) (by rfl) (by (repeat' (first | exact True.intro | exact rfl | refine And.intro ?_ ?_ | (simp [AV.ren, AV.rens, AObj.ren, Ent.ren, AV.inn, AV.inns, AObj.inn, *]; done)))) (by (repeat' (first | exact True.intro | exact rfl | refine And.intro ?_ ?_ | (simp [AV.ren, AV.rens, AObj.ren, Ent.ren, AV.inn, AV.inns, AObj.inn, *]; done)))) ?_)
            exact ⟨rfl, rfl⟩
          (conv => whnf)
          rw [IntWalk.i64_in (R - 1 - conf) (by omega)]
          refine AC.frame (eval_b s C.wit ⟨C.seq, R - 1 - conf, C.lock⟩ hl2) [] (by (repeat' (exact True.intro))) (by rfl) (by (repeat' (first | exact True.intro | refine And.intro ?_ ?_))) (by rfl) ?_
          rintro r0 hp0 ⟨rfl, rfl⟩
          cases hev : evB s C.wit ⟨C.seq, R - 1 - conf, C.lock⟩
          case' false =>
            (conv => whnf)
            refine AC.frame (ripe_ok C conf (R - 1)) [] (by (repeat' (exact True.intro))) (by rfl) (by (repeat' (first | exact True.intro | refine And.intro ?_ ?_))) (by rfl) ?_
            rintro r0 hp0 ⟨rfl, rfl⟩
            rw [hR, decide_eq_false (show ¬ R - 1 ≥ R by omega)]; (conv => whnf)
            (refine Turned.of [0, 1] [(2, .str pre), (3, .bool known), (4, .int .i64 conf), (5, .int .i64 late), (6, .ptr 0 0 0 0), (7, .ptr 1 0 0 0), (13, .int .i64 (i : Int))] [⟨38, false, none, .var s.segs⟩, ⟨3, false, none, .var [.int .i64 k.wallet, .int .i64 k.own, .int .i64 k.rev]⟩] (by rfl) (by rfl) (by rfl) (by (repeat' (first | exact True.intro | exact rfl | refine And.intro ?_ ?_ | (simp [AV.ren, AV.rens, AObj.ren, Ent.ren, AV.inn, AV.inns, AObj.inn, *]; done)))) (by (repeat' (first | exact True.intro | exact rfl | refine And.intro ?_ ?_ | (simp [AV.ren, AV.rens, AObj.ren, Ent.ren, AV.inn, AV.inns, AObj.inn, *]; done)))) ?_)
            exact ⟨rfl, rfl⟩
          (conv => whnf); (cases g4 : (decide (C.lock ≤ R - 1) : Bool) <;> (try simp only [beq_iff_eq, beq_eq_false_iff_ne, ne_eq, decide_eq_true_eq, decide_eq_false_iff_not, bne_iff_ne, bne_eq_false_iff_eq, Bool.not_eq_true, Bool.not_eq_false, gt_iff_lt, ge_iff_le] at g4) <;> (try (exfalso; omega)))
          case' true =>
            exact absurd ⟨by omega, evB_true.1 hev, by omega⟩ h6
          (conv => whnf)
          refine AC.frame (ripe_ok C conf (R - 1)) [] (by (repeat' (exact True.intro))) (by rfl) (by (repeat' (first | exact True.intro | refine And.intro ?_ ?_))) (by rfl) ?_
          rintro r0 hp0 ⟨rfl, rfl⟩
          rw [hR, decide_eq_false (show ¬ R - 1 ≥ R by omega)]; (conv => whnf)
          (refine Turned.of [0, 1] [(2, .str pre), (3, .bool known), (4, .int .i64 conf), (5, .int .i64 late), (6, .ptr 0 0 0 0), (7, .ptr 1 0 0 0), (13, .int .i64 (i : Int))] [⟨38, false, none, .var s.segs⟩, ⟨3, false, none, .var [.int .i64 k.wallet, .int .i64 k.own, .int .i64 k.rev]⟩] (by rfl) (by rfl) (by rfl) (by (repeat' (first | exact True.intro | exact rfl | refine And.intro ?_ ?_ | (simp [AV.ren, AV.rens, AObj.ren, Ent.ren, AV.inn, AV.inns, AObj.inn, *]; done)))) (by (repeat' (first | exact True.intro | exact rfl | refine And.intro ?_ ?_ | (simp [AV.ren, AV.rens, AObj.ren, Ent.ren, AV.inn, AV.inns, AObj.inn, *]; done)))) ?_)
          exact ⟨rfl, rfl⟩
      · rintro fr hp ⟨rfl, rfl⟩
        refine ev_sound tokT (keep := fun _ => true) ?_
        (conv => whnf)
        rw [IntWalk.i64_in ((i : Int) + 1) (by omega)]
        (refine Turned.of [0, 1] [(2, .str pre), (3, .bool known), (4, .int .i64 conf), (5, .int .i64 late), (6, .ptr 0 0 0 0), (7, .ptr 1 0 0 0), (13, .int .i64 ((i : Int) + 1))] [⟨38, false, none, .var s.segs⟩, ⟨3, false, none, .var [.int .i64 k.wallet, .int .i64 k.own, .int .i64 k.rev]⟩] (by rfl) (by rfl) (by rfl) (by (repeat' (first | exact True.intro | exact rfl | refine And.intro ?_ ?_ | (simp [AV.ren, AV.rens, AObj.ren, Ent.ren, AV.inn, AV.inns, AObj.inn, *]; done)))) (by (repeat' (first | exact True.intro | exact rfl | refine And.intro ?_ ?_ | (simp [AV.ren, AV.rens, AObj.ren, Ent.ren, AV.inn, AV.inns, AObj.inn, *]; done)))) ?_)
        exact ⟨2 - (i + 1), by omega, i + 1, rfl, by omega, rfl, rfl⟩
  · rintro fr hp ⟨rfl, rfl⟩
    refine ev_sound tokT (keep := fun _ => true) ?_
    (conv => whnf)
    refine AC.pure awake14_ok (by (repeat' (exact True.intro))) (by (repeat' (exact True.intro))) ?_
    (conv => whnf); (refine Left.of [] (.bool true) [] (by rfl) (by rfl) (by rfl) (by (repeat' (exact True.intro))) (by rfl) (by (repeat' (exact True.intro))) ?_)
    exact ⟨rfl, rfl⟩
end Go.Aw
