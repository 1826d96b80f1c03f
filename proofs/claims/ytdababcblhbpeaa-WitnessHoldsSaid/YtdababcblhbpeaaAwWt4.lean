/-
  AwWt4: the second reading of witnesses. Own work.
-/
import Derived.Test.YtdababcblhbpeaaAwWt3
import Derived.Test.YtdababcblhbpeaaAwSc5
set_option linter.unusedVariables false
set_option linter.unusedSimpArgs false
set_option maxRecDepth 20000
open Go.Proofs
namespace Go.Aw

set_option maxHeartbeats 2000000 in
theorem refmine_ok (s : Scr) (k : Keys3) (pre : List UInt8) (known : Bool) (hl : pre.length ≤ 4294967296) :
    AC Try.prog 50 [s.av, k.av, .str pre, .bool known] [] (fun r hp' => r = outC (mineC s k pre (known && (shaL (bytesOfStr pre) == s.hash))) (mineE s k pre (known && (shaL (bytesOfStr pre) == s.hash))) ∧ hp' = []) := by
  refine AC.left (AC.body tokT Try.func50 rfl rfl rfl (by decide) (by rfl) ?_)
  have hvb := refvalid_b s
  obtain ⟨kd, ky, ot, rv, dl, ex, H⟩ := s
  obtain ⟨kn, hkn⟩ : ∃ kn, (known && (shaL (bytesOfStr pre) == H)) = kn := ⟨_, rfl⟩
  simp only
  rw [hkn]
  refine AW.pre tokT (fun _ => true) ?_; (conv => whnf)
  refine AW.cutT (fun fr hp => Scr.ok ⟨kd, ky, ot, rv, dl, ex, H⟩ ∧ fr = [(2, .str pre), (3, .bool known), (4, .ptr 0 0 0 0), (5, .ptr 1 0 0 0), (8, .ptr 2 0 0 0), (9, .int .i64 0)] ∧ hp = [⟨38, false, none, .var [.int .i64 kd, .int .i64 ky, .int .i64 ot, .int .i64 rv, .int .i64 dl, .int .i64 ex, .ints .u8 32 H]⟩, ⟨3, false, none, .var [.int .i64 k.wallet, .int .i64 k.own, .int .i64 k.rev]⟩, ⟨6, false, none, .var zeroC.segs⟩]) ?_ ?_
  · refine ev_sound tokT (keep := fun _ => true) ?_
    (conv => whnf)
    refine AC.pure hvb (by (repeat' (first | exact True.intro | refine And.intro ?_ ?_))) (by (repeat' (exact True.intro))) ?_
    (conv => whnf); (cases hv : (okB (Scr.mk kd ky ot rv dl ex H) : Bool) <;> (try simp only [beq_iff_eq, beq_eq_false_iff_ne, ne_eq, decide_eq_true_eq, decide_eq_false_iff_not, bne_iff_ne, bne_eq_false_iff_eq, Bool.not_eq_true, Bool.not_eq_false, gt_iff_lt, ge_iff_le] at hv) <;> (try (exfalso; omega)))
    case' false =>
      have hok := okB_no.1 hv
      (conv => whnf)
      (refine Left.of [] (outC zeroC 5) [] (by rfl) (by rfl) (by rfl) (by (repeat' (first | exact True.intro | refine And.intro ?_ ?_))) (by rfl) (by (repeat' (first | exact True.intro | refine And.intro ?_ ?_))) ?_)
      exact ⟨by simp [mineC, mineE, mineP, hok], rfl⟩
    (conv => whnf)
    (refine Turned.of [0, 1, 2] [(2, .str pre), (3, .bool known), (4, .ptr 0 0 0 0), (5, .ptr 1 0 0 0), (8, .ptr 2 0 0 0), (9, .int .i64 0)] [⟨38, false, none, .var [.int .i64 kd, .int .i64 ky, .int .i64 ot, .int .i64 rv, .int .i64 dl, .int .i64 ex, .ints .u8 32 H]⟩, ⟨3, false, none, .var [.int .i64 k.wallet, .int .i64 k.own, .int .i64 k.rev]⟩, ⟨6, false, none, .var zeroC.segs⟩] (by rfl) (by rfl) (by rfl) (by (repeat' (first | exact True.intro | exact rfl | refine And.intro ?_ ?_ | (simp [AV.ren, AV.rens, AObj.ren, Ent.ren, AV.inn, AV.inns, AObj.inn, *]; done)))) (by (repeat' (first | exact True.intro | exact rfl | refine And.intro ?_ ?_ | (simp [AV.ren, AV.rens, AObj.ren, Ent.ren, AV.inn, AV.inns, AObj.inn, *]; done)))) ?_)
    exact ⟨okB_true.1 hv, rfl, rfl⟩
  rintro fr hp ⟨hok, rfl, rfl⟩
  refine AW.pre tokT (fun _ => true) ?_; (conv => whnf)
  refine AW.cutT (fun fr hp => fr = [(2, .str pre), (4, .ptr 0 0 0 0), (5, .ptr 1 0 0 0), (8, .ptr 2 0 0 0), (9, .int .i64 0), (10, .ptr 3 0 0 0), (11, .bool kn)] ∧ hp = [⟨38, false, none, .var [.int .i64 kd, .int .i64 ky, .int .i64 ot, .int .i64 rv, .int .i64 dl, .int .i64 ex, .ints .u8 32 H]⟩, ⟨3, false, none, .var [.int .i64 k.wallet, .int .i64 k.own, .int .i64 k.rev]⟩, ⟨6, false, none, .var zeroC.segs⟩, ⟨3, false, none, .var [.int .i64 1, .int .i64 k.own, .str []]⟩]) (AW.draw [(false, 0), (false, 1), (false, 2), (false, 4), (false, 5), (true, 3), (false, 6), (false, 7), (false, 8)] (keep := fun _ => true) mixed_okS tokT (by kernel_rfl) (by kernel_rfl) ?_) ?_
  · ((conv => whnf); (repeat (((refine Exists.intro _ (And.intro (by ((conv => whnf); (repeat ((refine And.intro (by exact rfl) ?_); (conv => whnf))))) ?_)); (conv => whnf)))))
    cases known with
    | false =>
      have : kn = false := by rw [← hkn]; rfl
      subst this
      ((conv => whnf); (repeat (first | ((with_reducible (refine And.intro (show Go.Aw.againsK _ _ _ _ _ from ?_) ?_)); (focus (repeat' (first | ((with_reducible (show Go.Aw.againsK _ _ _ _ _)); (conv => whnf)) | ((with_reducible (show Go.Aw.againK _ _ _ _ _)); (conv => whnf)) | (with_reducible (exact True.intro)) | (with_reducible (refine And.intro ?_ ?_)) | exact rfl))); (conv => whnf)) | ((refine Exists.intro _ (And.intro (by ((conv => whnf); (repeat ((refine And.intro (by exact rfl) ?_); (conv => whnf))))) ?_)); (conv => whnf)))))
      (refine Turned.of [0, 1, 2, 3] [(2, .str pre), (4, .ptr 0 0 0 0), (5, .ptr 1 0 0 0), (8, .ptr 2 0 0 0), (9, .int .i64 0), (10, .ptr 3 0 0 0), (11, .bool false)] [⟨38, false, none, .var [.int .i64 kd, .int .i64 ky, .int .i64 ot, .int .i64 rv, .int .i64 dl, .int .i64 ex, .ints .u8 32 H]⟩, ⟨3, false, none, .var [.int .i64 k.wallet, .int .i64 k.own, .int .i64 k.rev]⟩, ⟨6, false, none, .var zeroC.segs⟩, ⟨3, false, none, .var [.int .i64 1, .int .i64 k.own, .str []]⟩] (by rfl) (by rfl) (by rfl) (by (repeat' (first | exact True.intro | exact rfl | refine And.intro ?_ ?_ | (simp [AV.ren, AV.rens, AObj.ren, Ent.ren, AV.inn, AV.inns, AObj.inn, *]; done)))) (by (repeat' (first | exact True.intro | exact rfl | refine And.intro ?_ ?_ | (simp [AV.ren, AV.rens, AObj.ren, Ent.ren, AV.inn, AV.inns, AObj.inn, *]; done)))) ?_)
      exact ⟨rfl, rfl⟩
    | true =>
      ((conv => whnf); (repeat (((refine Exists.intro _ (And.intro (by ((conv => whnf); (repeat ((refine And.intro (by exact rfl) ?_); (conv => whnf))))) ?_)); (conv => whnf)))))
      refine AC.frame (refimage_ok pre hl) [] (by (repeat' (exact True.intro))) (by rfl) (by (repeat' (first | exact True.intro | refine And.intro ?_ ?_))) (by rfl) ?_
      rintro r0 hp0 ⟨rfl, rfl⟩
      ((conv => whnf); (repeat (first | ((with_reducible (refine And.intro (show Go.Aw.againsK _ _ _ _ _ from ?_) ?_)); (focus (repeat' (first | ((with_reducible (show Go.Aw.againsK _ _ _ _ _)); (conv => whnf)) | ((with_reducible (show Go.Aw.againK _ _ _ _ _)); (conv => whnf)) | (with_reducible (exact True.intro)) | (with_reducible (refine And.intro ?_ ?_)) | exact rfl))); (conv => whnf)) | ((refine Exists.intro _ (And.intro (by ((conv => whnf); (repeat ((refine And.intro (by exact rfl) ?_); (conv => whnf))))) ?_)); (conv => whnf)))))
      rw [show (shaL (bytesOfStr pre) == H) = kn by rw [← hkn]; rfl]
      rw [show (kn && true) = kn by simp]
      (refine Turned.of [0, 1, 2, 3] [(2, .str pre), (4, .ptr 0 0 0 0), (5, .ptr 1 0 0 0), (8, .ptr 2 0 0 0), (9, .int .i64 0), (10, .ptr 3 0 0 0), (11, .bool kn)] [⟨38, false, none, .var [.int .i64 kd, .int .i64 ky, .int .i64 ot, .int .i64 rv, .int .i64 dl, .int .i64 ex, .ints .u8 32 H]⟩, ⟨3, false, none, .var [.int .i64 k.wallet, .int .i64 k.own, .int .i64 k.rev]⟩, ⟨6, false, none, .var zeroC.segs⟩, ⟨3, false, none, .var [.int .i64 1, .int .i64 k.own, .str []]⟩] (by rfl) (by rfl) (by rfl) (by (repeat' (first | exact True.intro | exact rfl | refine And.intro ?_ ?_ | (simp [AV.ren, AV.rens, AObj.ren, Ent.ren, AV.inn, AV.inns, AObj.inn, *]; done)))) (by (repeat' (first | exact True.intro | exact rfl | refine And.intro ?_ ?_ | (simp [AV.ren, AV.rens, AObj.ren, Ent.ren, AV.inn, AV.inns, AObj.inn, *]; done)))) ?_)
      exact ⟨rfl, rfl⟩
  rintro fr hp ⟨rfl, rfl⟩
  have h16 : kd = 1 ∨ kd = 2 ∨ kd = 3 ∨ kd = 4 ∨ kd = 5 ∨ kd = 6 := by
    have := hok
    unfold Scr.ok at this
    simp only at this
    omega
  clear hvb
  rcases h16 with rfl | rfl | rfl | rfl | rfl | rfl
  · refine ev_sound tokT (keep := fun _ => true) ?_
    (conv => whnf); (cases a : (ky == k.wallet : Bool) <;> (try simp only [beq_iff_eq, beq_eq_false_iff_ne, ne_eq, decide_eq_true_eq, decide_eq_false_iff_not, bne_iff_ne, bne_eq_false_iff_eq, Bool.not_eq_true, Bool.not_eq_false, gt_iff_lt, ge_iff_le] at a) <;> (try (exfalso; omega)))
    case' true =>
      (conv => whnf); (refine Left.of [] (outC ⟨⟨1, k.wallet, []⟩, 0, 0, 0⟩ 0) [] (by rfl) (by rfl) (by rfl) (by (repeat' (first | exact True.intro | refine And.intro ?_ ?_))) (by rfl) (by (repeat' (first | exact True.intro | refine And.intro ?_ ?_))) ?_)
      exact ⟨by unfold mineC mineE; rw [mineP_ok hok]; simp [mineK, a], rfl⟩
    (conv => whnf); (refine Left.of [] (outC zeroC 5) [] (by rfl) (by rfl) (by rfl) (by (repeat' (first | exact True.intro | refine And.intro ?_ ?_))) (by rfl) (by (repeat' (first | exact True.intro | refine And.intro ?_ ?_))) ?_)
    exact ⟨by unfold mineC mineE; rw [mineP_ok hok]; simp [mineK, a], rfl⟩
  · refine ev_sound tokT (keep := fun _ => true) ?_
    (conv => whnf); (cases a : (ky == k.own : Bool) <;> (try simp only [beq_iff_eq, beq_eq_false_iff_ne, ne_eq, decide_eq_true_eq, decide_eq_false_iff_not, bne_iff_ne, bne_eq_false_iff_eq, Bool.not_eq_true, Bool.not_eq_false, gt_iff_lt, ge_iff_le] at a) <;> (try (exfalso; omega)))
    case' true =>
      (conv => whnf); (refine Left.of [] (outC ⟨⟨1, k.own, []⟩, dl, 0, dl⟩ 0) [] (by rfl) (by rfl) (by rfl) (by (repeat' (first | exact True.intro | refine And.intro ?_ ?_))) (by rfl) (by (repeat' (first | exact True.intro | refine And.intro ?_ ?_))) ?_)
      exact ⟨by unfold mineC mineE; rw [mineP_ok hok]; simp [mineK, a], rfl⟩
    (conv => whnf); (refine Left.of [] (outC zeroC 5) [] (by rfl) (by rfl) (by rfl) (by (repeat' (first | exact True.intro | refine And.intro ?_ ?_))) (by rfl) (by (repeat' (first | exact True.intro | refine And.intro ?_ ?_))) ?_)
    exact ⟨by unfold mineC mineE; rw [mineP_ok hok]; simp [mineK, a], rfl⟩
  · refine ev_sound tokT (keep := fun _ => true) ?_
    (conv => whnf); (cases a : (ky == k.own : Bool) <;> (try simp only [beq_iff_eq, beq_eq_false_iff_ne, ne_eq, decide_eq_true_eq, decide_eq_false_iff_not, bne_iff_ne, bne_eq_false_iff_eq, Bool.not_eq_true, Bool.not_eq_false, gt_iff_lt, ge_iff_le] at a) <;> (try (exfalso; omega)))
    case' true =>
      (conv => whnf); (refine Left.of [] (outC ⟨⟨1, k.own, []⟩, 1, 0, 1⟩ 0) [] (by rfl) (by rfl) (by rfl) (by (repeat' (first | exact True.intro | refine And.intro ?_ ?_))) (by rfl) (by (repeat' (first | exact True.intro | refine And.intro ?_ ?_))) ?_)
      exact ⟨by unfold mineC mineE; rw [mineP_ok hok]; simp [mineK, a], rfl⟩
    (conv => whnf); (refine Left.of [] (outC zeroC 5) [] (by rfl) (by rfl) (by rfl) (by (repeat' (first | exact True.intro | refine And.intro ?_ ?_))) (by rfl) (by (repeat' (first | exact True.intro | refine And.intro ?_ ?_))) ?_)
    exact ⟨by unfold mineC mineE; rw [mineP_ok hok]; simp [mineK, a], rfl⟩
  · refine ev_sound tokT (keep := fun _ => true) ?_
    (conv => whnf); (cases a : (ky == k.own : Bool) <;> (try simp only [beq_iff_eq, beq_eq_false_iff_ne, ne_eq, decide_eq_true_eq, decide_eq_false_iff_not, bne_iff_ne, bne_eq_false_iff_eq, Bool.not_eq_true, Bool.not_eq_false, gt_iff_lt, ge_iff_le] at a) <;> (try (exfalso; omega)))
    case' true =>
      (conv => whnf); (refine Left.of [] (outC ⟨⟨1, k.own, []⟩, 0, 0, 0⟩ 0) [] (by rfl) (by rfl) (by rfl) (by (repeat' (first | exact True.intro | refine And.intro ?_ ?_))) (by rfl) (by (repeat' (first | exact True.intro | refine And.intro ?_ ?_))) ?_)
      exact ⟨by unfold mineC mineE; rw [mineP_ok hok]; simp [mineK, a], rfl⟩
    (conv => whnf); (refine Left.of [] (outC zeroC 5) [] (by rfl) (by rfl) (by rfl) (by (repeat' (first | exact True.intro | refine And.intro ?_ ?_))) (by rfl) (by (repeat' (first | exact True.intro | refine And.intro ?_ ?_))) ?_)
    exact ⟨by unfold mineC mineE; rw [mineP_ok hok]; simp [mineK, a], rfl⟩
  · refine ev_sound tokT (keep := fun _ => true) ?_
    (conv => whnf); (cases a : (ot == k.own : Bool) <;> (try simp only [beq_iff_eq, beq_eq_false_iff_ne, ne_eq, decide_eq_true_eq, decide_eq_false_iff_not, bne_iff_ne, bne_eq_false_iff_eq, Bool.not_eq_true, Bool.not_eq_false, gt_iff_lt, ge_iff_le] at a) <;> (try (exfalso; omega)))
    case' true =>
      (conv => whnf); cases kn with
      | true =>
        (conv => whnf); (refine Left.of [] (outC ⟨⟨2, k.own, pre⟩, 0, 0, 0⟩ 0) [] (by rfl) (by rfl) (by rfl) (by (repeat' (first | exact True.intro | refine And.intro ?_ ?_))) (by rfl) (by (repeat' (first | exact True.intro | refine And.intro ?_ ?_))) ?_)
        exact ⟨by unfold mineC mineE; rw [mineP_ok hok]; simp [mineK, a], rfl⟩
      | false =>
        (conv => whnf); (cases b : (ky == k.own : Bool) <;> (try simp only [beq_iff_eq, beq_eq_false_iff_ne, ne_eq, decide_eq_true_eq, decide_eq_false_iff_not, bne_iff_ne, bne_eq_false_iff_eq, Bool.not_eq_true, Bool.not_eq_false, gt_iff_lt, ge_iff_le] at b) <;> (try (exfalso; omega)))
        case' true =>
          (conv => whnf); (refine Left.of [] (outC ⟨⟨1, k.own, []⟩, 0, ex, 0⟩ 0) [] (by rfl) (by rfl) (by rfl) (by (repeat' (first | exact True.intro | refine And.intro ?_ ?_))) (by rfl) (by (repeat' (first | exact True.intro | refine And.intro ?_ ?_))) ?_)
          exact ⟨by unfold mineC mineE; rw [mineP_ok hok]; simp [mineK, a, b], rfl⟩
        (conv => whnf); (refine Left.of [] (outC zeroC 5) [] (by rfl) (by rfl) (by rfl) (by (repeat' (first | exact True.intro | refine And.intro ?_ ?_))) (by rfl) (by (repeat' (first | exact True.intro | refine And.intro ?_ ?_))) ?_)
        exact ⟨by unfold mineC mineE; rw [mineP_ok hok]; simp [mineK, a, b], rfl⟩
    (conv => whnf); (cases b : (ky == k.own : Bool) <;> (try simp only [beq_iff_eq, beq_eq_false_iff_ne, ne_eq, decide_eq_true_eq, decide_eq_false_iff_not, bne_iff_ne, bne_eq_false_iff_eq, Bool.not_eq_true, Bool.not_eq_false, gt_iff_lt, ge_iff_le] at b) <;> (try (exfalso; omega)))
    case' true =>
      (conv => whnf); (refine Left.of [] (outC ⟨⟨1, k.own, []⟩, 0, ex, 0⟩ 0) [] (by rfl) (by rfl) (by rfl) (by (repeat' (first | exact True.intro | refine And.intro ?_ ?_))) (by rfl) (by (repeat' (first | exact True.intro | refine And.intro ?_ ?_))) ?_)
      exact ⟨by unfold mineC mineE; rw [mineP_ok hok]; simp [mineK, a, b], rfl⟩
    (conv => whnf); (refine Left.of [] (outC zeroC 5) [] (by rfl) (by rfl) (by rfl) (by (repeat' (first | exact True.intro | refine And.intro ?_ ?_))) (by rfl) (by (repeat' (first | exact True.intro | refine And.intro ?_ ?_))) ?_)
    exact ⟨by unfold mineC mineE; rw [mineP_ok hok]; simp [mineK, a, b], rfl⟩
  · refine ev_sound tokT (keep := fun _ => true) ?_
    (conv => whnf); (cases a : (ky == k.own : Bool) <;> (try simp only [beq_iff_eq, beq_eq_false_iff_ne, ne_eq, decide_eq_true_eq, decide_eq_false_iff_not, bne_iff_ne, bne_eq_false_iff_eq, Bool.not_eq_true, Bool.not_eq_false, gt_iff_lt, ge_iff_le] at a) <;> (try (exfalso; omega)))
    case' true =>
      (conv => whnf); cases kn with
      | true =>
        (conv => whnf); (refine Left.of [] (outC ⟨⟨2, k.own, pre⟩, 0, 0, 0⟩ 0) [] (by rfl) (by rfl) (by rfl) (by (repeat' (first | exact True.intro | refine And.intro ?_ ?_))) (by rfl) (by (repeat' (first | exact True.intro | refine And.intro ?_ ?_))) ?_)
        exact ⟨by unfold mineC mineE; rw [mineP_ok hok]; simp [mineK, a], rfl⟩
      | false =>
        (conv => whnf); (cases b : (ot == k.own : Bool) <;> (try simp only [beq_iff_eq, beq_eq_false_iff_ne, ne_eq, decide_eq_true_eq, decide_eq_false_iff_not, bne_iff_ne, bne_eq_false_iff_eq, Bool.not_eq_true, Bool.not_eq_false, gt_iff_lt, ge_iff_le] at b) <;> (try (exfalso; omega)))
        case' true =>
          (conv => whnf); (refine Left.of [] (outC ⟨⟨1, k.own, []⟩, 0, ex, 0⟩ 0) [] (by rfl) (by rfl) (by rfl) (by (repeat' (first | exact True.intro | refine And.intro ?_ ?_))) (by rfl) (by (repeat' (first | exact True.intro | refine And.intro ?_ ?_))) ?_)
          exact ⟨by unfold mineC mineE; rw [mineP_ok hok]; simp [mineK, a, b], rfl⟩
        (conv => whnf); (refine Left.of [] (outC zeroC 5) [] (by rfl) (by rfl) (by rfl) (by (repeat' (first | exact True.intro | refine And.intro ?_ ?_))) (by rfl) (by (repeat' (first | exact True.intro | refine And.intro ?_ ?_))) ?_)
        exact ⟨by unfold mineC mineE; rw [mineP_ok hok]; simp [mineK, a, b], rfl⟩
    (conv => whnf); (cases b : (ot == k.own : Bool) <;> (try simp only [beq_iff_eq, beq_eq_false_iff_ne, ne_eq, decide_eq_true_eq, decide_eq_false_iff_not, bne_iff_ne, bne_eq_false_iff_eq, Bool.not_eq_true, Bool.not_eq_false, gt_iff_lt, ge_iff_le] at b) <;> (try (exfalso; omega)))
    case' true =>
      (conv => whnf); (refine Left.of [] (outC ⟨⟨1, k.own, []⟩, 0, ex, 0⟩ 0) [] (by rfl) (by rfl) (by rfl) (by (repeat' (first | exact True.intro | refine And.intro ?_ ?_))) (by rfl) (by (repeat' (first | exact True.intro | refine And.intro ?_ ?_))) ?_)
      exact ⟨by unfold mineC mineE; rw [mineP_ok hok]; simp [mineK, a, b], rfl⟩
    (conv => whnf); (refine Left.of [] (outC zeroC 5) [] (by rfl) (by rfl) (by rfl) (by (repeat' (first | exact True.intro | refine And.intro ?_ ?_))) (by rfl) (by (repeat' (first | exact True.intro | refine And.intro ?_ ?_))) ?_)
    exact ⟨by unfold mineC mineE; rw [mineP_ok hok]; simp [mineK, a, b], rfl⟩

theorem refjustice_ok (s : Scr) (k : Keys3) : AC Try.prog 52 [s.av, k.av] [] (fun r hp' => r = outC (jusC s k) (jusE s k) ∧ hp' = []) := by
  refine AC.left (AC.body tokT Try.func52 rfl rfl rfl (by decide) (by rfl) ?_)
  refine AW.pre tokT (fun _ => true) ?_; (conv => whnf)
  have bad : ¬ Jus s k → jusC s k = zeroC ∧ jusE s k = 5 := fun g => by unfold jusC jusE; rw [jusB_false.2 g]; exact ⟨rfl, rfl⟩
  refine ev_sound tokT (keep := fun _ => true) ?_
  (conv => whnf)
  refine AC.pure (refvalid_b s) (by (repeat' (first | exact True.intro | refine And.intro ?_ ?_))) (by (repeat' (exact True.intro))) ?_
  (conv => whnf); (cases hv : (okB s : Bool) <;> (try simp only [beq_iff_eq, beq_eq_false_iff_ne, ne_eq, decide_eq_true_eq, decide_eq_false_iff_not, bne_iff_ne, bne_eq_false_iff_eq, Bool.not_eq_true, Bool.not_eq_false, gt_iff_lt, ge_iff_le] at hv) <;> (try (exfalso; omega)))
  case' false =>
    (conv => whnf)
    (refine Left.of [] (outC zeroC 5) [] (by rfl) (by rfl) (by rfl) (by (repeat' (first | exact True.intro | refine And.intro ?_ ?_))) (by rfl) (by (repeat' (first | exact True.intro | refine And.intro ?_ ?_))) ?_)
    obtain ⟨e1, e2⟩ := bad (fun g => okB_no.1 hv g.1)
    exact ⟨by rw [e1, e2], rfl⟩
  (conv => whnf); (cases g1 : (s.kind != 2 : Bool) <;> (try simp only [beq_iff_eq, beq_eq_false_iff_ne, ne_eq, decide_eq_true_eq, decide_eq_false_iff_not, bne_iff_ne, bne_eq_false_iff_eq, Bool.not_eq_true, Bool.not_eq_false, gt_iff_lt, ge_iff_le] at g1) <;> (try (exfalso; omega)))
  case' true =>
    (conv => whnf); (cases g2 : (s.kind != 5 : Bool) <;> (try simp only [beq_iff_eq, beq_eq_false_iff_ne, ne_eq, decide_eq_true_eq, decide_eq_false_iff_not, bne_iff_ne, bne_eq_false_iff_eq, Bool.not_eq_true, Bool.not_eq_false, gt_iff_lt, ge_iff_le] at g2) <;> (try (exfalso; omega)))
    case' true =>
      (conv => whnf); (cases g3 : (s.kind != 6 : Bool) <;> (try simp only [beq_iff_eq, beq_eq_false_iff_ne, ne_eq, decide_eq_true_eq, decide_eq_false_iff_not, bne_iff_ne, bne_eq_false_iff_eq, Bool.not_eq_true, Bool.not_eq_false, gt_iff_lt, ge_iff_le] at g3) <;> (try (exfalso; omega)))
      case' true =>
        (conv => whnf)
        (refine Left.of [] (outC zeroC 5) [] (by rfl) (by rfl) (by rfl) (by (repeat' (first | exact True.intro | refine And.intro ?_ ?_))) (by rfl) (by (repeat' (first | exact True.intro | refine And.intro ?_ ?_))) ?_)
        obtain ⟨e1, e2⟩ := bad (fun g => by have := g.2.1; omega)
        exact ⟨by rw [e1, e2], rfl⟩
      (conv => whnf); (cases hr : (s.rev != k.rev : Bool) <;> (try simp only [beq_iff_eq, beq_eq_false_iff_ne, ne_eq, decide_eq_true_eq, decide_eq_false_iff_not, bne_iff_ne, bne_eq_false_iff_eq, Bool.not_eq_true, Bool.not_eq_false, gt_iff_lt, ge_iff_le] at hr) <;> (try (exfalso; omega)))
      case' true =>
        (conv => whnf)
        (refine Left.of [] (outC zeroC 5) [] (by rfl) (by rfl) (by rfl) (by (repeat' (first | exact True.intro | refine And.intro ?_ ?_))) (by rfl) (by (repeat' (first | exact True.intro | refine And.intro ?_ ?_))) ?_)
        obtain ⟨e1, e2⟩ := bad (fun g => hr g.2.2)
        exact ⟨by rw [e1, e2], rfl⟩
      (conv => whnf); (refine Left.of [] (outC ⟨⟨3, k.rev, []⟩, 0, 0, 0⟩ 0) [] (by rfl) (by rfl) (by rfl) (by (repeat' (first | exact True.intro | refine And.intro ?_ ?_))) (by rfl) (by (repeat' (first | exact True.intro | refine And.intro ?_ ?_))) ?_)
      exact ⟨by unfold jusC jusE; rw [jusB_true.2 ⟨okB_true.1 hv, by omega, hr⟩], rfl⟩
    (conv => whnf); (cases hr : (s.rev != k.rev : Bool) <;> (try simp only [beq_iff_eq, beq_eq_false_iff_ne, ne_eq, decide_eq_true_eq, decide_eq_false_iff_not, bne_iff_ne, bne_eq_false_iff_eq, Bool.not_eq_true, Bool.not_eq_false, gt_iff_lt, ge_iff_le] at hr) <;> (try (exfalso; omega)))
    case' true =>
      (conv => whnf)
      (refine Left.of [] (outC zeroC 5) [] (by rfl) (by rfl) (by rfl) (by (repeat' (first | exact True.intro | refine And.intro ?_ ?_))) (by rfl) (by (repeat' (first | exact True.intro | refine And.intro ?_ ?_))) ?_)
      obtain ⟨e1, e2⟩ := bad (fun g => hr g.2.2)
      exact ⟨by rw [e1, e2], rfl⟩
    (conv => whnf); (refine Left.of [] (outC ⟨⟨3, k.rev, []⟩, 0, 0, 0⟩ 0) [] (by rfl) (by rfl) (by rfl) (by (repeat' (first | exact True.intro | refine And.intro ?_ ?_))) (by rfl) (by (repeat' (first | exact True.intro | refine And.intro ?_ ?_))) ?_)
    exact ⟨by unfold jusC jusE; rw [jusB_true.2 ⟨okB_true.1 hv, by omega, hr⟩], rfl⟩
  (conv => whnf); (cases hr : (s.rev != k.rev : Bool) <;> (try simp only [beq_iff_eq, beq_eq_false_iff_ne, ne_eq, decide_eq_true_eq, decide_eq_false_iff_not, bne_iff_ne, bne_eq_false_iff_eq, Bool.not_eq_true, Bool.not_eq_false, gt_iff_lt, ge_iff_le] at hr) <;> (try (exfalso; omega)))
  case' true =>
    (conv => whnf)
    (refine Left.of [] (outC zeroC 5) [] (by rfl) (by rfl) (by rfl) (by (repeat' (first | exact True.intro | refine And.intro ?_ ?_))) (by rfl) (by (repeat' (first | exact True.intro | refine And.intro ?_ ?_))) ?_)
    obtain ⟨e1, e2⟩ := bad (fun g => hr g.2.2)
    exact ⟨by rw [e1, e2], rfl⟩
  (conv => whnf); (refine Left.of [] (outC ⟨⟨3, k.rev, []⟩, 0, 0, 0⟩ 0) [] (by rfl) (by rfl) (by rfl) (by (repeat' (first | exact True.intro | refine And.intro ?_ ?_))) (by rfl) (by (repeat' (first | exact True.intro | refine And.intro ?_ ?_))) ?_)
  exact ⟨by unfold jusC jusE; rw [jusB_true.2 ⟨okB_true.1 hv, by omega, hr⟩], rfl⟩

/-- what a witness tells, if it tells a script's text -/
def Tell (s : Scr) (w : Wit) : Prop := (s.kind = 5 ∨ s.kind = 6) ∧ w.kind = 2 ∧ toldI s.hash w.pre = 1
instance (s : Scr) (w : Wit) : Decidable (Tell s w) := by unfold Tell; infer_instance
@[irreducible] def telB (s : Scr) (w : Wit) : Bool := decide (Tell s w)
theorem telB_true {s : Scr} {w : Wit} : telB s w = true ↔ Tell s w := by unfold telB; exact iff_of_eq (decide_eq_true_eq)
theorem telB_no {s : Scr} {w : Wit} : telB s w = false ↔ ¬ Tell s w := by rw [← telB_true]; simp
def telS (s : Scr) (w : Wit) : List UInt8 := match telB s w with | true => w.pre | false => []
theorem tel_yes {s : Scr} {w : Wit} (h : Tell s w) : AV.tup [.str w.pre, .bool true] = .tup [.str (telS s w), .bool (telB s w)] := by unfold telS; rw [telB_true.2 h]
theorem tel_no {s : Scr} {w : Wit} (h : ¬ Tell s w) : AV.tup [.str [], .bool false] = .tup [.str (telS s w), .bool (telB s w)] := by unfold telS; rw [telB_no.2 h]

theorem extract_ok (s : Scr) (w : Wit) (hl : w.pre.length ≤ 4294967296) : AC Try.prog 53 [s.av, w.av] [] (fun r hp' => r = .tup [.str (telS s w), .bool (telB s w)] ∧ hp' = []) := by
  refine AC.left (AC.body tokT Try.func53 rfl rfl rfl (by decide) (by rfl) ?_)
  refine AW.pre tokT (fun _ => true) ?_; (conv => whnf)
  refine AW.cutT (fun fr hp => ∃ K : Bool, (K = true ↔ s.kind = 5 ∨ s.kind = 6) ∧ fr = [(2, .ptr 0 0 0 0), (3, .ptr 1 0 0 0), (6, .bool K)] ∧ hp = [⟨38, false, none, .var s.segs⟩, ⟨3, false, none, .var w.segs⟩]) ?_ ?_
  · refine ev_sound tokT (keep := fun _ => true) ?_
    (conv => whnf); (cases g1 : (s.kind == 5 : Bool) <;> (try simp only [beq_iff_eq, beq_eq_false_iff_ne, ne_eq, decide_eq_true_eq, decide_eq_false_iff_not, bne_iff_ne, bne_eq_false_iff_eq, Bool.not_eq_true, Bool.not_eq_false, gt_iff_lt, ge_iff_le] at g1) <;> (try (exfalso; omega)))
    case' true =>
      (conv => whnf)
      (refine Turned.of [0, 1] [(2, .ptr 0 0 0 0), (3, .ptr 1 0 0 0), (6, .bool true)] [⟨38, false, none, .var s.segs⟩, ⟨3, false, none, .var w.segs⟩] (by rfl) (by rfl) (by rfl) (by (repeat' (first | exact True.intro | exact rfl | refine And.intro ?_ ?_ | (simp [AV.ren, AV.rens, AObj.ren, Ent.ren, AV.inn, AV.inns, AObj.inn, *]; done)))) (by (repeat' (first | exact True.intro | exact rfl | refine And.intro ?_ ?_ | (simp [AV.ren, AV.rens, AObj.ren, Ent.ren, AV.inn, AV.inns, AObj.inn, *]; done)))) ?_)
      exact ⟨true, ⟨fun _ => .inl g1, fun _ => rfl⟩, rfl, rfl⟩
    (conv => whnf)
    (refine Turned.of [0, 1] [(2, .ptr 0 0 0 0), (3, .ptr 1 0 0 0), (6, .bool (s.kind == 6))] [⟨38, false, none, .var s.segs⟩, ⟨3, false, none, .var w.segs⟩] (by rfl) (by rfl) (by rfl) (by (repeat' (first | exact True.intro | exact rfl | refine And.intro ?_ ?_ | (simp [AV.ren, AV.rens, AObj.ren, Ent.ren, AV.inn, AV.inns, AObj.inn, *]; done)))) (by (repeat' (first | exact True.intro | exact rfl | refine And.intro ?_ ?_ | (simp [AV.ren, AV.rens, AObj.ren, Ent.ren, AV.inn, AV.inns, AObj.inn, *]; done)))) ?_)
    exact ⟨_, by rw [beq_iff_eq]; omega, rfl, rfl⟩
  rintro fr hp ⟨K, hK, rfl, rfl⟩
  refine AW.seq (AW.seq (AW.draw [(false, 0), (false, 1), (false, 2), (false, 3), (false, 4), (false, 5), (false, 6), (false, 7), (false, 8), (false, 9), (false, 11), (false, 12), (true, 10), (false, 13), (false, 14)] (keep := fun _ => true) mixed_okS tokT (by kernel_rfl) (by kernel_rfl) ?_))
  ((conv => whnf); (repeat (((refine Exists.intro _ (And.intro (by ((conv => whnf); (repeat ((refine And.intro (by exact rfl) ?_); (conv => whnf))))) ?_)); (conv => whnf)))))
  rcases bool_iff hK with ⟨rfl, hk⟩ | ⟨rfl, hk⟩
  case' inr =>
    ((conv => whnf); (repeat (first | ((with_reducible (refine And.intro (show Go.Aw.againsK _ _ _ _ _ from ?_) ?_)); (focus (repeat' (first | ((with_reducible (show Go.Aw.againsK _ _ _ _ _)); (conv => whnf)) | ((with_reducible (show Go.Aw.againK _ _ _ _ _)); (conv => whnf)) | (with_reducible (exact True.intro)) | (with_reducible (refine And.intro ?_ ?_)) | exact rfl))); (conv => whnf)) | ((refine Exists.intro _ (And.intro (by ((conv => whnf); (repeat ((refine And.intro (by exact rfl) ?_); (conv => whnf))))) ?_)); (conv => whnf)))))
    refine ev_sound tokT (keep := fun _ => true) ?_
    (conv => whnf)
    (refine Left.of [] (.tup [.str [], .bool false]) [] (by rfl) (by rfl) (by rfl) (by (repeat' (first | exact True.intro | refine And.intro ?_ ?_))) (by rfl) (by (repeat' (first | exact True.intro | refine And.intro ?_ ?_))) ?_)
    exact ⟨tel_no (fun g => hk g.1), rfl⟩
  ((conv => whnf); (repeat (((refine Exists.intro _ (And.intro (by ((conv => whnf); (repeat ((refine And.intro (by exact rfl) ?_); (conv => whnf))))) ?_)); (conv => whnf))))); (cases k2 : (w.kind != 2 : Bool) <;> (try simp only [beq_iff_eq, beq_eq_false_iff_ne, ne_eq, decide_eq_true_eq, decide_eq_false_iff_not, bne_iff_ne, bne_eq_false_iff_eq, Bool.not_eq_true, Bool.not_eq_false, gt_iff_lt, ge_iff_le] at k2) <;> (try (exfalso; omega)))
  case' true =>
    ((conv => whnf); (repeat (first | ((with_reducible (refine And.intro (show Go.Aw.againsK _ _ _ _ _ from ?_) ?_)); (focus (repeat' (first | ((with_reducible (show Go.Aw.againsK _ _ _ _ _)); (conv => whnf)) | ((with_reducible (show Go.Aw.againK _ _ _ _ _)); (conv => whnf)) | (with_reducible (exact True.intro)) | (with_reducible (refine And.intro ?_ ?_)) | exact rfl | (simp; omega)))); (conv => whnf)) | ((refine Exists.intro _ (And.intro (by ((conv => whnf); (repeat ((refine And.intro (by exact rfl) ?_); (conv => whnf))))) ?_)); (conv => whnf)))))
    refine ev_sound tokT (keep := fun _ => true) ?_
    (conv => whnf)
    (refine Left.of [] (.tup [.str [], .bool false]) [] (by rfl) (by rfl) (by rfl) (by (repeat' (first | exact True.intro | refine And.intro ?_ ?_))) (by rfl) (by (repeat' (first | exact True.intro | refine And.intro ?_ ?_))) ?_)
    exact ⟨tel_no (fun g => k2 g.2.1), rfl⟩
  ((conv => whnf); (repeat (((refine Exists.intro _ (And.intro (by ((conv => whnf); (repeat ((refine And.intro (by exact rfl) ?_); (conv => whnf))))) ?_)); (conv => whnf)))))
  refine AC.frame (image_ok w.pre hl) [] (by (repeat' (exact True.intro))) (by rfl) (by (repeat' (first | exact True.intro | refine And.intro ?_ ?_))) (by rfl) ?_
  rintro r0 hp0 ⟨rfl, rfl⟩
  ((conv => whnf); (repeat (first | ((with_reducible (refine And.intro (show Go.Aw.againsK _ _ _ _ _ from ?_) ?_)); (focus (repeat' (first | ((with_reducible (show Go.Aw.againsK _ _ _ _ _)); (conv => whnf)) | ((with_reducible (show Go.Aw.againK _ _ _ _ _)); (conv => whnf)) | (with_reducible (exact True.intro)) | (with_reducible (refine And.intro ?_ ?_)) | exact rfl | (simp; omega)))); (conv => whnf)) | ((refine Exists.intro _ (And.intro (by ((conv => whnf); (repeat ((refine And.intro (by exact rfl) ?_); (conv => whnf))))) ?_)); (conv => whnf)))))

  by_cases ht : shaL (bytesOfStr w.pre) = s.hash
  · rw [show (shaL (bytesOfStr w.pre) == s.hash) = true by rw [ht]; simp]
    (conv => whnf)
    refine ev_sound tokT (keep := fun _ => true) ?_
    (conv => whnf)
    refine ev_sound tokT (keep := fun _ => true) ?_
    (conv => whnf)
    (refine Left.of [] (.tup [.str w.pre, .bool true]) [] (by rfl) (by rfl) (by rfl) (by (repeat' (first | exact True.intro | refine And.intro ?_ ?_))) (by rfl) (by (repeat' (first | exact True.intro | refine And.intro ?_ ?_))) ?_)
    exact ⟨tel_yes ⟨by omega, k2, told_yes ht⟩, rfl⟩
  · rw [show (shaL (bytesOfStr w.pre) == s.hash) = false by simpa using ht]
    (conv => whnf)
    refine ev_sound tokT (keep := fun _ => true) ?_
    (conv => whnf)
    (refine Left.of [] (.tup [.str [], .bool false]) [] (by rfl) (by rfl) (by rfl) (by (repeat' (first | exact True.intro | refine And.intro ?_ ?_))) (by rfl) (by (repeat' (first | exact True.intro | refine And.intro ?_ ?_))) ?_)
    exact ⟨tel_no (fun g => absurd g.2.2 (by rw [told_no ht]; decide)), rfl⟩

theorem refextract_ok (s : Scr) (w : Wit) (hl : w.pre.length ≤ 4294967296) : AC Try.prog 54 [s.av, w.av] [] (fun r hp' => r = .tup [.str (telS s w), .bool (telB s w)] ∧ hp' = []) := by
  refine AC.left (AC.body tokT Try.func54 rfl rfl rfl (by decide) (by rfl) ?_)
  refine AW.pre tokT (fun _ => true) ?_; (conv => whnf)
  refine AW.seq (AW.seq (AW.draw [(false, 0), (false, 1), (false, 2), (false, 3), (false, 4), (false, 5), (false, 6), (false, 7), (false, 8), (false, 9), (false, 10), (false, 11), (false, 12), (false, 13), (false, 14), (false, 15), (false, 17), (false, 18), (true, 16), (false, 19), (false, 20)] (keep := fun _ => true) mixed_okS tokT (by kernel_rfl) (by kernel_rfl) ?_))
  ((conv => whnf); (repeat (((refine Exists.intro _ (And.intro (by ((conv => whnf); (repeat ((refine And.intro (by exact rfl) ?_); (conv => whnf))))) ?_)); (conv => whnf)))))
  (conv => whnf); (cases g1 : (s.kind != 5 : Bool) <;> (try simp only [beq_iff_eq, beq_eq_false_iff_ne, ne_eq, decide_eq_true_eq, decide_eq_false_iff_not, bne_iff_ne, bne_eq_false_iff_eq, Bool.not_eq_true, Bool.not_eq_false, gt_iff_lt, ge_iff_le] at g1) <;> (try (exfalso; omega)))
  case' true =>
    ((conv => whnf); (repeat (((refine Exists.intro _ (And.intro (by ((conv => whnf); (repeat ((refine And.intro (by exact rfl) ?_); (conv => whnf))))) ?_)); (conv => whnf))))); (cases g2 : (s.kind != 6 : Bool) <;> (try simp only [beq_iff_eq, beq_eq_false_iff_ne, ne_eq, decide_eq_true_eq, decide_eq_false_iff_not, bne_iff_ne, bne_eq_false_iff_eq, Bool.not_eq_true, Bool.not_eq_false, gt_iff_lt, ge_iff_le] at g2) <;> (try (exfalso; omega)))
    case' true =>
      ((conv => whnf); (repeat (first | ((with_reducible (refine And.intro (show Go.Aw.againsK _ _ _ _ _ from ?_) ?_)); (focus (repeat' (first | ((with_reducible (show Go.Aw.againsK _ _ _ _ _)); (conv => whnf)) | ((with_reducible (show Go.Aw.againK _ _ _ _ _)); (conv => whnf)) | (with_reducible (exact True.intro)) | (with_reducible (refine And.intro ?_ ?_)) | exact rfl | (simp; omega)))); (conv => whnf)) | ((refine Exists.intro _ (And.intro (by ((conv => whnf); (repeat ((refine And.intro (by exact rfl) ?_); (conv => whnf))))) ?_)); (conv => whnf)))))
      refine ev_sound tokT (keep := fun _ => true) ?_
      (conv => whnf)
      (refine Left.of [] (.tup [.str [], .bool false]) [] (by rfl) (by rfl) (by rfl) (by (repeat' (first | exact True.intro | refine And.intro ?_ ?_))) (by rfl) (by (repeat' (first | exact True.intro | refine And.intro ?_ ?_))) ?_)
      exact ⟨tel_no (fun g => by have := g.1; omega), rfl⟩
    ((conv => whnf); (repeat (((refine Exists.intro _ (And.intro (by ((conv => whnf); (repeat ((refine And.intro (by exact rfl) ?_); (conv => whnf))))) ?_)); (conv => whnf))))); (cases k2 : (w.kind != 2 : Bool) <;> (try simp only [beq_iff_eq, beq_eq_false_iff_ne, ne_eq, decide_eq_true_eq, decide_eq_false_iff_not, bne_iff_ne, bne_eq_false_iff_eq, Bool.not_eq_true, Bool.not_eq_false, gt_iff_lt, ge_iff_le] at k2) <;> (try (exfalso; omega)))
    case' true =>
      ((conv => whnf); (repeat (first | ((with_reducible (refine And.intro (show Go.Aw.againsK _ _ _ _ _ from ?_) ?_)); (focus (repeat' (first | ((with_reducible (show Go.Aw.againsK _ _ _ _ _)); (conv => whnf)) | ((with_reducible (show Go.Aw.againK _ _ _ _ _)); (conv => whnf)) | (with_reducible (exact True.intro)) | (with_reducible (refine And.intro ?_ ?_)) | exact rfl | (simp; omega)))); (conv => whnf)) | ((refine Exists.intro _ (And.intro (by ((conv => whnf); (repeat ((refine And.intro (by exact rfl) ?_); (conv => whnf))))) ?_)); (conv => whnf)))))
      refine ev_sound tokT (keep := fun _ => true) ?_
      (conv => whnf)
      (refine Left.of [] (.tup [.str [], .bool false]) [] (by rfl) (by rfl) (by rfl) (by (repeat' (first | exact True.intro | refine And.intro ?_ ?_))) (by rfl) (by (repeat' (first | exact True.intro | refine And.intro ?_ ?_))) ?_)
      exact ⟨tel_no (fun g => k2 g.2.1), rfl⟩
    ((conv => whnf); (repeat (((refine Exists.intro _ (And.intro (by ((conv => whnf); (repeat ((refine And.intro (by exact rfl) ?_); (conv => whnf))))) ?_)); (conv => whnf)))))
    refine AC.frame (refimage_ok w.pre hl) [] (by (repeat' (exact True.intro))) (by rfl) (by (repeat' (first | exact True.intro | refine And.intro ?_ ?_))) (by rfl) ?_
    rintro r0 hp0 ⟨rfl, rfl⟩
    ((conv => whnf); (repeat (first | ((with_reducible (refine And.intro (show Go.Aw.againsK _ _ _ _ _ from ?_) ?_)); (focus (repeat' (first | ((with_reducible (show Go.Aw.againsK _ _ _ _ _)); (conv => whnf)) | ((with_reducible (show Go.Aw.againK _ _ _ _ _)); (conv => whnf)) | (with_reducible (exact True.intro)) | (with_reducible (refine And.intro ?_ ?_)) | exact rfl | (simp; omega)))); (conv => whnf)) | ((refine Exists.intro _ (And.intro (by ((conv => whnf); (repeat ((refine And.intro (by exact rfl) ?_); (conv => whnf))))) ?_)); (conv => whnf)))))

    by_cases ht : shaL (bytesOfStr w.pre) = s.hash
    · rw [show (shaL (bytesOfStr w.pre) == s.hash) = true by rw [ht]; simp]
      (conv => whnf)
      refine ev_sound tokT (keep := fun _ => true) ?_
      (conv => whnf)
      refine ev_sound tokT (keep := fun _ => true) ?_
      (conv => whnf)
      (refine Left.of [] (.tup [.str w.pre, .bool true]) [] (by rfl) (by rfl) (by rfl) (by (repeat' (first | exact True.intro | refine And.intro ?_ ?_))) (by rfl) (by (repeat' (first | exact True.intro | refine And.intro ?_ ?_))) ?_)
      exact ⟨tel_yes ⟨by omega, k2, told_yes ht⟩, rfl⟩
    · rw [show (shaL (bytesOfStr w.pre) == s.hash) = false by simpa using ht]
      (conv => whnf)
      refine ev_sound tokT (keep := fun _ => true) ?_
      (conv => whnf)
      (refine Left.of [] (.tup [.str [], .bool false]) [] (by rfl) (by rfl) (by rfl) (by (repeat' (first | exact True.intro | refine And.intro ?_ ?_))) (by rfl) (by (repeat' (first | exact True.intro | refine And.intro ?_ ?_))) ?_)
      exact ⟨tel_no (fun g => absurd g.2.2 (by rw [told_no ht]; decide)), rfl⟩
  ((conv => whnf); (repeat (((refine Exists.intro _ (And.intro (by ((conv => whnf); (repeat ((refine And.intro (by exact rfl) ?_); (conv => whnf))))) ?_)); (conv => whnf))))); (cases k2 : (w.kind != 2 : Bool) <;> (try simp only [beq_iff_eq, beq_eq_false_iff_ne, ne_eq, decide_eq_true_eq, decide_eq_false_iff_not, bne_iff_ne, bne_eq_false_iff_eq, Bool.not_eq_true, Bool.not_eq_false, gt_iff_lt, ge_iff_le] at k2) <;> (try (exfalso; omega)))
  case' true =>
    ((conv => whnf); (repeat (first | ((with_reducible (refine And.intro (show Go.Aw.againsK _ _ _ _ _ from ?_) ?_)); (focus (repeat' (first | ((with_reducible (show Go.Aw.againsK _ _ _ _ _)); (conv => whnf)) | ((with_reducible (show Go.Aw.againK _ _ _ _ _)); (conv => whnf)) | (with_reducible (exact True.intro)) | (with_reducible (refine And.intro ?_ ?_)) | exact rfl | (simp; omega)))); (conv => whnf)) | ((refine Exists.intro _ (And.intro (by ((conv => whnf); (repeat ((refine And.intro (by exact rfl) ?_); (conv => whnf))))) ?_)); (conv => whnf)))))
    refine ev_sound tokT (keep := fun _ => true) ?_
    (conv => whnf)
    (refine Left.of [] (.tup [.str [], .bool false]) [] (by rfl) (by rfl) (by rfl) (by (repeat' (first | exact True.intro | refine And.intro ?_ ?_))) (by rfl) (by (repeat' (first | exact True.intro | refine And.intro ?_ ?_))) ?_)
    exact ⟨tel_no (fun g => k2 g.2.1), rfl⟩
  ((conv => whnf); (repeat (((refine Exists.intro _ (And.intro (by ((conv => whnf); (repeat ((refine And.intro (by exact rfl) ?_); (conv => whnf))))) ?_)); (conv => whnf)))))
  refine AC.frame (refimage_ok w.pre hl) [] (by (repeat' (exact True.intro))) (by rfl) (by (repeat' (first | exact True.intro | refine And.intro ?_ ?_))) (by rfl) ?_
  rintro r0 hp0 ⟨rfl, rfl⟩
  ((conv => whnf); (repeat (first | ((with_reducible (refine And.intro (show Go.Aw.againsK _ _ _ _ _ from ?_) ?_)); (focus (repeat' (first | ((with_reducible (show Go.Aw.againsK _ _ _ _ _)); (conv => whnf)) | ((with_reducible (show Go.Aw.againK _ _ _ _ _)); (conv => whnf)) | (with_reducible (exact True.intro)) | (with_reducible (refine And.intro ?_ ?_)) | exact rfl | (simp; omega)))); (conv => whnf)) | ((refine Exists.intro _ (And.intro (by ((conv => whnf); (repeat ((refine And.intro (by exact rfl) ?_); (conv => whnf))))) ?_)); (conv => whnf)))))

  by_cases ht : shaL (bytesOfStr w.pre) = s.hash
  · rw [show (shaL (bytesOfStr w.pre) == s.hash) = true by rw [ht]; simp]
    (conv => whnf)
    refine ev_sound tokT (keep := fun _ => true) ?_
    (conv => whnf)
    refine ev_sound tokT (keep := fun _ => true) ?_
    (conv => whnf)
    (refine Left.of [] (.tup [.str w.pre, .bool true]) [] (by rfl) (by rfl) (by rfl) (by (repeat' (first | exact True.intro | refine And.intro ?_ ?_))) (by rfl) (by (repeat' (first | exact True.intro | refine And.intro ?_ ?_))) ?_)
    exact ⟨tel_yes ⟨by omega, k2, told_yes ht⟩, rfl⟩
  · rw [show (shaL (bytesOfStr w.pre) == s.hash) = false by simpa using ht]
    (conv => whnf)
    refine ev_sound tokT (keep := fun _ => true) ?_
    (conv => whnf)
    (refine Left.of [] (.tup [.str [], .bool false]) [] (by rfl) (by rfl) (by rfl) (by (repeat' (first | exact True.intro | refine And.intro ?_ ?_))) (by rfl) (by (repeat' (first | exact True.intro | refine And.intro ?_ ?_))) ?_)
    exact ⟨tel_no (fun g => absurd g.2.2 (by rw [told_no ht]; decide)), rfl⟩

theorem flat_ok (c : Clm) : AC Try.prog 55 [c.av] [] (fun r hp' => r = c.av ∧ hp' = []) := by
  refine AC.left (AC.body tokT Try.func55 rfl rfl rfl (by decide) (by rfl) ?_)
  refine AW.pre tokT (fun _ => true) ?_; (conv => whnf)
  refine ev_sound tokT (keep := fun _ => true) ?_
  (conv => whnf)
  (refine Left.of [] c.av [] (by rfl) (by rfl) (by rfl) (by (repeat' (first | exact True.intro | refine And.intro ?_ ?_))) (by rfl) (by (repeat' (first | exact True.intro | refine And.intro ?_ ?_))) ?_)
  exact ⟨rfl, rfl⟩

end Go.Aw
