/-
  AwSh8: the law ShaAll. Own work.
-/
import Derived.Test.YtdababcblhbpeaaAwSh6
import Derived.Test.YtdababcblhbpeaaAwPk4
set_option linter.unusedVariables false
set_option linter.unusedSimpArgs false
set_option maxRecDepth 20000
open Go.Proofs
namespace Go.Aw

def filL (N i : Nat) (c : Int) : List Int := List.replicate i c ++ List.replicate (N + 1 - i) 0
theorem filL_len {N i : Nat} {c : Int} (h : i ≤ N + 1) : (filL N i c).length = N + 1 := by simp [filL]; omega
theorem filL_set {N i : Nat} {c : Int} (h : i < N + 1) : (filL N i c).set i c = filL N (i + 1) c := by
  unfold filL
  rw [show N + 1 - i = (N + 1 - (i + 1)) + 1 by omega, List.replicate_succ, List.set_append_right _ _ (by simp)]
  simp [List.replicate_succ', List.append_assoc]

set_option maxHeartbeats 1000000 in
theorem all_law (n c : Int) (hc : 0 ≤ c ∧ c ≤ 255) : AC Try.prog 7 [.int .i64 n, .int .u8 c] [] (fun r hp' => r = .bool true) := by
  refine AC.body tokT Try.func7 rfl rfl rfl (by decide) (by rfl) ?_
  refine AW.pre tokT (fun _ => true) ?_; (conv => whnf)
  refine AW.pre tokT (fun _ => true) ?_; (conv => whnf)
  (cases g1 : (decide (n < 0) : Bool) <;> (try simp only [beq_iff_eq, beq_eq_false_iff_ne, ne_eq, decide_eq_true_eq, decide_eq_false_iff_not, bne_iff_ne, bne_eq_false_iff_eq, Bool.not_eq_true, Bool.not_eq_false, gt_iff_lt, ge_iff_le] at g1) <;> (try (exfalso; omega)))
  case' true =>
    (conv => whnf)
    refine AC.frame awake2_ok [] (by (repeat' (exact True.intro))) (by rfl) (by (repeat' (exact True.intro))) (by rfl) ?_
    rintro r0 hp0 ⟨rfl, rfl⟩
    (conv => whnf)
  (conv => whnf)
  (cases g2 : (decide (n > 260) : Bool) <;> (try simp only [beq_iff_eq, beq_eq_false_iff_ne, ne_eq, decide_eq_true_eq, decide_eq_false_iff_not, bne_iff_ne, bne_eq_false_iff_eq, Bool.not_eq_true, Bool.not_eq_false, gt_iff_lt, ge_iff_le] at g2) <;> (try (exfalso; omega)))
  case' true =>
    (conv => whnf)
    refine AC.frame awake2_ok [] (by (repeat' (exact True.intro))) (by rfl) (by (repeat' (exact True.intro))) (by rfl) ?_
    rintro r0 hp0 ⟨rfl, rfl⟩
    (conv => whnf)
  (conv => whnf)
  obtain ⟨N, rfl⟩ : ∃ N : Nat, n = (N : Int) := ⟨n.toNat, by omega⟩
  have hN : N ≤ 260 := by omega
  have hw : IntKind.i64.wrap ((N : Int) + 1) = (N : Int) + 1 := IntWalk.i64_in _ (by omega)
  have hw1 : 0 ≤ IntKind.i64.wrap ((N : Int) + 1) := by rw [hw]; omega
  have hw2 : IntKind.i64.wrap ((N : Int) + 1) ≤ (roomMost : Int) := by rw [hw]; simp [roomMost]; omega
  refine AW.pre tokT (fun _ => true) ?_; ((conv => whnf); (repeat (((refine And.intro (by first | assumption | omega) ?_); (conv => whnf)))))
  rw [hw]
  clear hw hw1 hw2
  have e1 : List.replicate ((N : Int) + 1).toNat (0 : Int) = filL N 0 c := by
    simp [filL]
  have e2 : ((N : Int) + 1).toNat = N + 1 := by omega
  rw [e1, e2]
  refine AW.cutT (fun fr hp => fr = [(0, .int .i64 (N : Int)), (4, .bool false), (5, .sl 0 0 (N + 1) (some (N + 1)))] ∧ hp = [⟨1, false, none, .ints .u8 (filL N (N + 1) c)⟩]) ?_ ?_
  · refine AW.pre tokT (fun _ => true) ?_; (conv => whnf)
    refine AW.block ?_
    (refine AW.turnL [0] [(0, .int .i64 (N : Int)), (1, .int .u8 c), (4, .bool false), (5, .sl 0 0 (N + 1) (some (N + 1))), (6, .int .i64 0)] [⟨1, false, none, .ints .u8 (filL N 0 c)⟩] (by rfl) (by rfl) (by rfl) (by (repeat' (first | exact True.intro | exact rfl | refine And.intro ?_ ?_ | (simp [AV.ren, AV.rens, AObj.ren, Ent.ren, AV.inn, AV.inns, AObj.inn, *]; done)))) (by (repeat' (first | exact True.intro | exact rfl | refine And.intro ?_ ?_ | (simp [AV.ren, AV.rens, AObj.ren, Ent.ren, AV.inn, AV.inns, AObj.inn, *]; done)))) ?_)
    refine AW.loop (fun q fr hp => ∃ i : Nat, q = N + 1 - i ∧ i ≤ N + 1 ∧ fr = [(0, .int .i64 (N : Int)), (1, .int .u8 c), (4, .bool false), (5, .sl 0 0 (N + 1) (some (N + 1))), (6, .int .i64 (i : Int))] ∧ hp = [⟨1, false, none, .ints .u8 (filL N i c)⟩]) (N + 1) ?_ ?_
    · exact ⟨0, by omega, by omega, rfl, rfl⟩
    · rintro q fr hp ⟨i, rfl, hi, rfl, rfl⟩ -
      have hel := filL_len (c := c) hi
      refine AW.post ?_
      refine ev_sound tokT (keep := fun _ => true) ?_
      (conv => whnf); (cases hlt : (decide ((↑i : Int) < (↑(N + 1) : Int)) : Bool) <;> (try simp only [beq_iff_eq, beq_eq_false_iff_ne, ne_eq, decide_eq_true_eq, decide_eq_false_iff_not, bne_iff_ne, bne_eq_false_iff_eq, Bool.not_eq_true, Bool.not_eq_false, gt_iff_lt, ge_iff_le] at hlt) <;> (try (exfalso; omega)))
      case' false =>
        (conv => whnf)
        have : i = N + 1 := by omega
        subst this
        (refine Turned.of [0] [(0, .int .i64 (N : Int)), (4, .bool false), (5, .sl 0 0 (N + 1) (some (N + 1)))] [⟨1, false, none, .ints .u8 (filL N (N + 1) c)⟩] (by rfl) (by rfl) (by rfl) (by (repeat' (first | exact True.intro | exact rfl | refine And.intro ?_ ?_ | (simp [AV.ren, AV.rens, AObj.ren, Ent.ren, AV.inn, AV.inns, AObj.inn, *]; done)))) (by (repeat' (first | exact True.intro | exact rfl | refine And.intro ?_ ?_ | (simp [AV.ren, AV.rens, AObj.ren, Ent.ren, AV.inn, AV.inns, AObj.inn, *]; done)))) ?_)
        exact ⟨rfl, rfl⟩
      have hi' : i < N + 1 := by omega
      ((conv => whnf); (repeat (((refine And.intro (by first | assumption | omega) ?_); (conv => whnf)))))
      rw [show (0 + ((i : Nat) : Int).toNat) = i by omega, filL_set hi', IntWalk.i64_in ((i : Int) + 1) (by omega)]
      (refine Turned.of [0] [(0, .int .i64 (N : Int)), (1, .int .u8 c), (4, .bool false), (5, .sl 0 0 (N + 1) (some (N + 1))), (6, .int .i64 ((i : Int) + 1))] [⟨1, false, none, .ints .u8 (filL N (i + 1) c)⟩] (by rfl) (by rfl) (by rfl) (by (repeat' (first | exact True.intro | exact rfl | refine And.intro ?_ ?_ | (simp [AV.ren, AV.rens, AObj.ren, Ent.ren, AV.inn, AV.inns, AObj.inn, *]; done)))) (by (repeat' (first | exact True.intro | exact rfl | refine And.intro ?_ ?_ | (simp [AV.ren, AV.rens, AObj.ren, Ent.ren, AV.inn, AV.inns, AObj.inn, *]; done)))) ?_)
      exact ⟨N + 1 - (i + 1), by omega, i + 1, rfl, by omega, rfl, rfl⟩
  · rintro fr hp ⟨rfl, rfl⟩
    have hap := sha_apart (n := N) (c := c.toNat) hN (by omega)
    rw [show ((c.toNat : Nat) : Int) = c by omega] at hap
    have hR : filL N (N + 1) c = List.replicate (N + 1) c := by simp [filL]
    rw [hR]
    obtain ⟨xs, hx⟩ : ∃ xs, List.replicate (N + 1) c = xs := ⟨_, rfl⟩
    have hxl : xs.length = N + 1 := by rw [← hx]; simp
    have hxt : (xs.drop 0).take N = List.replicate N c := by rw [← hx]; simp
    have hxa : (xs.drop 0).take (N + 1) = xs := by rw [List.drop_zero, List.take_of_length_le (by omega)]
    rw [hx] at hap
    rw [hx]
    have a1 := sum1_ok xs 0 N (some (N + 1)) (some 1) (by omega) (by omega)
    have a2 := sum1_ok xs 0 (N + 1) (some (N + 1)) (some 1) (by omega) (by omega)
    have b1 := refsum_ok xs 0 N (some (N + 1)) (by omega) (by omega) (fun c hc => by cases hc; omega)
    have b2 := refsum_ok xs 0 (N + 1) (some (N + 1)) (by omega) (by omega) (fun c hc => by cases hc; omega)
    rw [hxt] at a1 b1
    rw [hxa] at a2 b2
    obtain ⟨S, hS⟩ : ∃ S, shaL (List.replicate N c) = S := ⟨_, rfl⟩
    obtain ⟨D, hD⟩ : ∃ D, shaL xs = D := ⟨_, rfl⟩
    rw [hS] at a1 b1 hap
    rw [hD] at a2 b2 hap
    have hne : (S == D) = false := by simpa using hap
    refine AW.pre tokT (fun _ => true) ?_; ((conv => whnf); (repeat (((refine And.intro (by omega) ?_); (conv => whnf)))))
    rw [show ((N : Nat) : Int).toNat = N from Int.toNat_natCast _]
    refine AC.frame a1 [1, 0] (by (repeat' (first | exact True.intro | exact rfl | refine And.intro ?_ ?_ | (simp [AV.ren, AV.rens, AObj.ren, Ent.ren, AV.inn, AV.inns, AObj.inn, *]; done)))) (by rfl) (by (repeat' (first | exact True.intro | refine And.intro ?_ ?_ | (simp [AV.ren, AV.rens, AObj.ren, Ent.ren, AV.inn, AV.inns, AObj.inn, *]; done)))) (by rfl) ?_
    rintro r0 hp0 ⟨rfl, rfl⟩
    (conv => whnf)
    refine AC.frame a2 [2, 0] (by (repeat' (first | exact True.intro | exact rfl | refine And.intro ?_ ?_ | (simp [AV.ren, AV.rens, AObj.ren, Ent.ren, AV.inn, AV.inns, AObj.inn, *]; done)))) (by rfl) (by (repeat' (first | exact True.intro | refine And.intro ?_ ?_ | (simp [AV.ren, AV.rens, AObj.ren, Ent.ren, AV.inn, AV.inns, AObj.inn, *]; done)))) (by rfl) ?_
    rintro r0 hp0 ⟨rfl, rfl⟩
    (conv => whnf)
    (refine AW.turnL [0, 3, 4] [(0, .int .i64 (N : Int)), (5, .sl 0 0 (N + 1) (some (N + 1))), (7, .ptr 1 0 0 0), (8, .ptr 2 0 0 0)] [⟨1, false, none, .ints .u8 xs⟩, ⟨32, false, none, .var [.ints .u8 32 S]⟩, ⟨32, false, none, .var [.ints .u8 32 D]⟩] (by rfl) (by rfl) (by rfl) (by (repeat' (first | exact True.intro | exact rfl | refine And.intro ?_ ?_ | (simp [AV.ren, AV.rens, AObj.ren, Ent.ren, AV.inn, AV.inns, AObj.inn, *]; done)))) (by (repeat' (first | exact True.intro | exact rfl | refine And.intro ?_ ?_ | (simp [AV.ren, AV.rens, AObj.ren, Ent.ren, AV.inn, AV.inns, AObj.inn, *]; done)))) ?_)
    refine AW.seq (AW.draw [(false, 0), (false, 1), (false, 2), (false, 3), (true, 4), (false, 5), (false, 6), (false, 7), (false, 8), (true, 9), (false, 10), (false, 11), (false, 12), (false, 13), (false, 14), (false, 15), (false, 16), (false, 17), (true, 18), (false, 19), (false, 20)] (keep := fun _ => true) mixed_ok' tokT (by kernel_rfl) (by kernel_rfl) ?_)
    ((conv => whnf); (repeat (((refine Exists.intro _ (And.intro (by ((conv => whnf); (repeat ((refine And.intro (by first | exact rfl | omega) ?_); (conv => whnf))))) ?_)); (conv => whnf)))))
    rw [show ((N : Nat) : Int).toNat = N from Int.toNat_natCast _]
    refine AC.frame b1 [0] (by (repeat' (first | exact True.intro | exact rfl | refine And.intro ?_ ?_))) (by rfl) (by (repeat' (first | exact True.intro | refine And.intro ?_ ?_ | (simp [AV.ren, AV.rens, AObj.ren, Ent.ren, AV.inn, AV.inns, AObj.inn, *]; done)))) (by rfl) ?_
    rintro r0 hp0 ⟨rfl, rfl⟩
    ((conv => whnf); (repeat (first | ((with_reducible (refine And.intro (show Go.Aw.againsK _ _ _ _ _ from ?_) ?_)); (focus (repeat' (first | ((with_reducible (show Go.Aw.againsK _ _ _ _ _)); (conv => whnf)) | ((with_reducible (show Go.Aw.againK _ _ _ _ _)); (conv => whnf)) | (with_reducible (exact True.intro)) | (with_reducible (refine And.intro ?_ ?_)) | exact rfl))); (conv => whnf)) | ((refine Exists.intro _ (And.intro (by ((conv => whnf); (repeat ((refine And.intro (by exact rfl) ?_); (conv => whnf))))) ?_)); (conv => whnf)))))
    rw [show (S == S) = true from by simp]
    ((conv => whnf); (repeat (((refine Exists.intro _ (And.intro (by ((conv => whnf); (repeat ((refine And.intro (by exact rfl) ?_); (conv => whnf))))) ?_)); (conv => whnf)))))
    refine AC.frame b2 [0] (by (repeat' (first | exact True.intro | exact rfl | refine And.intro ?_ ?_))) (by rfl) (by (repeat' (first | exact True.intro | refine And.intro ?_ ?_ | (simp [AV.ren, AV.rens, AObj.ren, Ent.ren, AV.inn, AV.inns, AObj.inn, *]; done)))) (by rfl) ?_
    rintro r0 hp0 ⟨rfl, rfl⟩
    ((conv => whnf); (repeat (first | ((with_reducible (refine And.intro (show Go.Aw.againsK _ _ _ _ _ from ?_) ?_)); (focus (repeat' (first | ((with_reducible (show Go.Aw.againsK _ _ _ _ _)); (conv => whnf)) | ((with_reducible (show Go.Aw.againK _ _ _ _ _)); (conv => whnf)) | (with_reducible (exact True.intro)) | (with_reducible (refine And.intro ?_ ?_)) | exact rfl | (simp; done)))); (conv => whnf)) | ((refine Exists.intro _ (And.intro (by ((conv => whnf); (repeat ((refine And.intro (by exact rfl) ?_); (conv => whnf))))) ?_)); (conv => whnf)))))
    rw [show (D == D) = true from by simp]
    ((conv => whnf); (repeat (((refine Exists.intro _ (And.intro (by ((conv => whnf); (repeat ((refine And.intro (by exact rfl) ?_); (conv => whnf))))) ?_)); (conv => whnf)))))
    rw [hne]
    (conv => whnf)
    refine AC.frame awake2_ok [] (by (repeat' (exact True.intro))) (by rfl) (by (repeat' (exact True.intro))) (by rfl) ?_
    rintro r0 hp0 ⟨rfl, rfl⟩
    ((conv => whnf); (repeat (first | ((with_reducible (refine And.intro (show Go.Aw.againsK _ _ _ _ _ from ?_) ?_)); (focus (repeat' (first | ((with_reducible (show Go.Aw.againsK _ _ _ _ _)); (conv => whnf)) | ((with_reducible (show Go.Aw.againK _ _ _ _ _)); (conv => whnf)) | (with_reducible (exact True.intro)) | (with_reducible (refine And.intro ?_ ?_)) | exact rfl | (simp; done) | (simp; omega)))); (conv => whnf)) | ((refine Exists.intro _ (And.intro (by ((conv => whnf); (repeat ((refine And.intro (by exact rfl) ?_); (conv => whnf))))) ?_)); (conv => whnf)))))
    refine ev_sound tokT (keep := fun _ => true) ?_
    (conv => whnf)
end Go.Aw
