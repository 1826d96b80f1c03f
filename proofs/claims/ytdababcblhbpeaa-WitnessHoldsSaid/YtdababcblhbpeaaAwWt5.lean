/-
  AwWt5: the second reading of Ripens; the law WitnessAsks. Own work.
-/
import Derived.Test.YtdababcblhbpeaaAwWt4
set_option linter.unusedVariables false
set_option linter.unusedSimpArgs false
set_option maxRecDepth 20000
open Go.Proofs
namespace Go.Aw

theorem refrip_ok (c : Clm) (conf : Int) : AC Try.prog 56 [c.av, .int .i64 conf] [] (fun r hp' => r = .int .i64 (ripI c conf) ∧ hp' = []) := by
  refine AC.left (AC.body tokT Try.func56 rfl rfl rfl (by decide) (by rfl) ?_)
  refine AW.pre tokT (fun _ => true) ?_; (conv => whnf)
  refine AW.seq (AW.draw [(false, 0), (false, 1), (false, 2), (false, 3), (false, 4), (false, 5), (false, 6), (false, 7), (false, 8), (false, 9), (false, 10), (true, 11), (false, 12), (false, 13)] (keep := fun _ => true) mixed_okS tokT (by kernel_rfl) (by kernel_rfl) ?_)
  ((conv => whnf); (repeat (first | ((with_reducible (refine And.intro (show Go.Aw.againsK _ _ _ _ _ from ?_) ?_)); (focus (repeat' (first | ((with_reducible (show Go.Aw.againsK _ _ _ _ _)); (conv => whnf)) | ((with_reducible (show Go.Aw.againK _ _ _ _ _)); (conv => whnf)) | (with_reducible (exact True.intro)) | (with_reducible (refine And.intro ?_ ?_)) | exact rfl))); (conv => whnf)) | ((refine Exists.intro _ (And.intro (by ((conv => whnf); (repeat ((refine And.intro (by exact rfl) ?_); (conv => whnf))))) ?_)); (conv => whnf)))))
  have hh : ∀ n : Int, (if (1099511627776 : Int) < (if (0 : Int) > n then 0 else n) then (1099511627776 : Int) else (if (0 : Int) > n then 0 else n)) = heldI n := fun n => by unfold heldI; split <;> split <;> (try split) <;> omega
  rw [hh conf, hh c.wait, hh c.lock]
  have h1 := heldI_range conf
  have h2 := heldI_range c.wait
  have h3 := heldI_range c.lock
  obtain ⟨A, hA⟩ : ∃ A, heldI conf = A := ⟨_, rfl⟩
  obtain ⟨B, hB⟩ : ∃ B, heldI c.wait = B := ⟨_, rfl⟩
  obtain ⟨C, hC⟩ : ∃ C, heldI c.lock = C := ⟨_, rfl⟩
  rw [hA] at h1 ⊢
  rw [hB] at h2 ⊢
  rw [hC] at h3 ⊢
  refine ev_sound tokT (keep := fun _ => true) ?_
  (conv => whnf)
  have e : ∀ X : Int, X = maxI (maxI (A + B) (A + 1)) C → (if (1099511627776 : Int) < X then (1099511627776 : Int) else X) = ripI c conf := by
    rintro X rfl
    have g : 0 ≤ maxI (maxI (A + B) (A + 1)) C := by unfold maxI; split <;> split <;> omega
    unfold ripI
    rw [hA, hB, hC]
    generalize maxI (maxI (A + B) (A + 1)) C = X at g ⊢
    unfold heldI
    split <;> split <;> (try split) <;> omega
  rw [IntWalk.i64_in (A + 1) (by omega), IntWalk.i64_in (A + B) (by omega)]
  rw [e (if C > (if A + 1 > A + B then A + 1 else A + B) then C else (if A + 1 > A + B then A + 1 else A + B)) rfl]
  (refine Left.of [] (.int .i64 (ripI c conf)) [] (by rfl) (by rfl) (by rfl) (by (repeat' (exact True.intro))) (by rfl) (by (repeat' (exact True.intro))) ?_)
  exact ⟨rfl, rfl⟩

set_option maxHeartbeats 2000000 in
theorem wasks_law (s : Scr) (k : Keys3) (pre : List UInt8) (known : Bool) (w : Wit) (c : Clm) (conf next : Int) :
    AC Try.prog 13 [s.av, k.av, .str pre, .bool known, w.av, c.av, .int .i64 conf, .int .i64 next] [] (fun r hp' => r = .bool true ∧ hp' = []) := by
  refine AC.left (AC.body tokT Try.func13 rfl rfl rfl (by decide) (by rfl) ?_)
  refine AW.pre tokT (fun _ => true) ?_; (conv => whnf)
  refine AW.cutT (fun fr hp => (pre.length ≤ 200 ∧ w.pre.length ≤ 200) ∧ fr = [(2, .str pre), (3, .bool known), (6, .int .i64 conf), (7, .int .i64 next), (8, .ptr 0 0 0 0), (9, .ptr 1 0 0 0), (12, .ptr 2 0 0 0), (13, .ptr 3 0 0 0)] ∧ hp = [⟨38, false, none, .var s.segs⟩, ⟨3, false, none, .var [.int .i64 k.wallet, .int .i64 k.own, .int .i64 k.rev]⟩, ⟨3, false, none, .var w.segs⟩, ⟨6, false, none, .var c.segs⟩]) ?_ ?_
  · refine ev_sound tokT (keep := fun _ => true) ?_
    (conv => whnf); (cases g1 : (decide ((↑pre.length : Int) > 200) : Bool) <;> (try simp only [beq_iff_eq, beq_eq_false_iff_ne, ne_eq, decide_eq_true_eq, decide_eq_false_iff_not, bne_iff_ne, bne_eq_false_iff_eq, Bool.not_eq_true, Bool.not_eq_false, gt_iff_lt, ge_iff_le] at g1) <;> (try (exfalso; omega)))
    case' true =>
      (conv => whnf)
      refine AC.pure awake14_ok (by (repeat' (exact True.intro))) (by (repeat' (exact True.intro))) ?_
      (conv => whnf); (refine Left.of [] (.bool true) [] (by rfl) (by rfl) (by rfl) (by (repeat' (exact True.intro))) (by rfl) (by (repeat' (exact True.intro))) ?_)
      exact ⟨rfl, rfl⟩
    (conv => whnf); (cases g2 : (decide ((↑w.pre.length : Int) > 200) : Bool) <;> (try simp only [beq_iff_eq, beq_eq_false_iff_ne, ne_eq, decide_eq_true_eq, decide_eq_false_iff_not, bne_iff_ne, bne_eq_false_iff_eq, Bool.not_eq_true, Bool.not_eq_false, gt_iff_lt, ge_iff_le] at g2) <;> (try (exfalso; omega)))
    case' true =>
      (conv => whnf)
      refine AC.pure awake14_ok (by (repeat' (exact True.intro))) (by (repeat' (exact True.intro))) ?_
      (conv => whnf); (refine Left.of [] (.bool true) [] (by rfl) (by rfl) (by rfl) (by (repeat' (exact True.intro))) (by rfl) (by (repeat' (exact True.intro))) ?_)
      exact ⟨rfl, rfl⟩
    (conv => whnf); (cases g3 : (decide ((↑c.wit.pre.length : Int) > 200) : Bool) <;> (try simp only [beq_iff_eq, beq_eq_false_iff_ne, ne_eq, decide_eq_true_eq, decide_eq_false_iff_not, bne_iff_ne, bne_eq_false_iff_eq, Bool.not_eq_true, Bool.not_eq_false, gt_iff_lt, ge_iff_le] at g3) <;> (try (exfalso; omega)))
    case' true =>
      (conv => whnf)
      refine AC.pure awake14_ok (by (repeat' (exact True.intro))) (by (repeat' (exact True.intro))) ?_
      (conv => whnf); (refine Left.of [] (.bool true) [] (by rfl) (by rfl) (by rfl) (by (repeat' (exact True.intro))) (by rfl) (by (repeat' (exact True.intro))) ?_)
      exact ⟨rfl, rfl⟩
    (conv => whnf)
    (refine Turned.of [0, 1, 2, 3] [(2, .str pre), (3, .bool known), (6, .int .i64 conf), (7, .int .i64 next), (8, .ptr 0 0 0 0), (9, .ptr 1 0 0 0), (12, .ptr 2 0 0 0), (13, .ptr 3 0 0 0)] [⟨38, false, none, .var s.segs⟩, ⟨3, false, none, .var [.int .i64 k.wallet, .int .i64 k.own, .int .i64 k.rev]⟩, ⟨3, false, none, .var w.segs⟩, ⟨6, false, none, .var c.segs⟩] (by rfl) (by rfl) (by rfl) (by (repeat' (first | exact True.intro | exact rfl | refine And.intro ?_ ?_ | (simp [AV.ren, AV.rens, AObj.ren, Ent.ren, AV.inn, AV.inns, AObj.inn, *]; done)))) (by (repeat' (first | exact True.intro | exact rfl | refine And.intro ?_ ?_ | (simp [AV.ren, AV.rens, AObj.ren, Ent.ren, AV.inn, AV.inns, AObj.inn, *]; done)))) ?_)
    exact ⟨⟨by omega, by omega⟩, rfl, rfl⟩
  · rintro fr hp ⟨⟨hl, hl'⟩, rfl, rfl⟩
    obtain ⟨M, hM⟩ : ∃ M, mineC s k pre (known && (shaL (bytesOfStr pre) == s.hash)) = M := ⟨_, rfl⟩
    obtain ⟨E, hE⟩ : ∃ E, mineE s k pre (known && (shaL (bytesOfStr pre) == s.hash)) = E := ⟨_, rfl⟩
    obtain ⟨J, hJ⟩ : ∃ J, jusC s k = J := ⟨_, rfl⟩
    obtain ⟨I, hI⟩ : ∃ I, jusE s k = I := ⟨_, rfl⟩
    obtain ⟨T, hT⟩ : ∃ T, telS s w = T := ⟨_, rfl⟩
    obtain ⟨U, hU⟩ : ∃ U, telB s w = U := ⟨_, rfl⟩
    obtain ⟨R, hR⟩ : ∃ R, ripI c conf = R := ⟨_, rfl⟩
    refine AW.pre tokT (fun _ => true) ?_; (conv => whnf)
    refine AC.frame (mine_ok s k pre known (by omega)) [] (by (repeat' (exact True.intro))) (by rfl) (by (repeat' (first | exact True.intro | refine And.intro ?_ ?_))) (by rfl) ?_
    rintro r0 hp0 ⟨rfl, rfl⟩
    rw [hM, hE]; (conv => whnf)
    refine AW.pre tokT (fun _ => true) ?_; (conv => whnf)
    refine AC.frame (refmine_ok s k pre known (by omega)) [] (by (repeat' (exact True.intro))) (by rfl) (by (repeat' (first | exact True.intro | refine And.intro ?_ ?_))) (by rfl) ?_
    rintro r0 hp0 ⟨rfl, rfl⟩
    rw [hM, hE]; (conv => whnf)
    refine AW.pre tokT (fun _ => true) ?_; (conv => whnf)
    refine AC.frame (justice_ok s k) [] (by (repeat' (exact True.intro))) (by rfl) (by (repeat' (first | exact True.intro | refine And.intro ?_ ?_))) (by rfl) ?_
    rintro r0 hp0 ⟨rfl, rfl⟩
    rw [hJ, hI]; (conv => whnf)
    refine AW.pre tokT (fun _ => true) ?_; (conv => whnf)
    refine AC.frame (refjustice_ok s k) [] (by (repeat' (exact True.intro))) (by rfl) (by (repeat' (first | exact True.intro | refine And.intro ?_ ?_))) (by rfl) ?_
    rintro r0 hp0 ⟨rfl, rfl⟩
    rw [hJ, hI]; (conv => whnf)
    refine AW.pre tokT (fun _ => true) ?_; (conv => whnf)
    refine AC.frame (extract_ok s w (by omega)) [] (by (repeat' (exact True.intro))) (by rfl) (by (repeat' (first | exact True.intro | refine And.intro ?_ ?_))) (by rfl) ?_
    rintro r0 hp0 ⟨rfl, rfl⟩
    rw [hT, hU]; (conv => whnf)
    refine AW.pre tokT (fun _ => true) ?_; (conv => whnf)
    refine AC.frame (refextract_ok s w (by omega)) [] (by (repeat' (exact True.intro))) (by rfl) (by (repeat' (first | exact True.intro | refine And.intro ?_ ?_))) (by rfl) ?_
    rintro r0 hp0 ⟨rfl, rfl⟩
    rw [hT, hU]; (conv => whnf)
    refine AW.pre tokT (fun _ => true) ?_; (conv => whnf)
    refine AW.pre tokT (fun _ => true) ?_; (conv => whnf)
    refine AC.frame (rip_ok c conf) [] (by (repeat' (exact True.intro))) (by rfl) (by (repeat' (first | exact True.intro | refine And.intro ?_ ?_))) (by rfl) ?_
    rintro r0 hp0 ⟨rfl, rfl⟩
    rw [hR]; (conv => whnf)
    refine AW.seq (AW.draw [(false, 0), (false, 2), (true, 1), (false, 3), (false, 4), (false, 5), (false, 6), (false, 7), (false, 8), (false, 9), (false, 10), (false, 12), (true, 11), (false, 13), (false, 14), (false, 15), (false, 16), (false, 17), (false, 18), (false, 19), (false, 20), (false, 21), (false, 22), (false, 23), (false, 24), (false, 25), (false, 26), (false, 27), (false, 28), (false, 29), (false, 30), (false, 31), (false, 32), (false, 33), (true, 34), (false, 35), (false, 36), (false, 37), (false, 38), (false, 39), (false, 40), (false, 42), (false, 43), (false, 44), (true, 41), (false, 45), (false, 46), (false, 47), (true, 48), (false, 49), (false, 50)] (keep := fun _ => true) mixed_okS tokT (by kernel_rfl) (by kernel_rfl) ?_)
    ((conv => whnf); (repeat (((refine Exists.intro _ (And.intro (by ((conv => whnf); (repeat ((refine And.intro (by exact rfl) ?_); (conv => whnf))))) ?_)); (conv => whnf)))))
    refine AC.frame (flat_ok M) [] (by (repeat' (exact True.intro))) (by rfl) (by (repeat' (first | exact True.intro | refine And.intro ?_ ?_))) (by rfl) ?_
    rintro r0 hp0 ⟨rfl, rfl⟩
    ((conv => whnf); (repeat (first | ((with_reducible (refine And.intro (show Go.Aw.againsK _ _ _ _ _ from ?_) ?_)); (focus (repeat' (first | ((with_reducible (show Go.Aw.againsK _ _ _ _ _)); (conv => whnf)) | ((with_reducible (show Go.Aw.againK _ _ _ _ _)); (conv => whnf)) | (with_reducible (exact True.intro)) | (with_reducible (refine And.intro ?_ ?_)) | exact rfl))); (conv => whnf)) | ((refine Exists.intro _ (And.intro (by ((conv => whnf); (repeat ((refine And.intro (by exact rfl) ?_); (conv => whnf))))) ?_)); (conv => whnf))))); (try simp only [beq_self_eq_true, Bool.true_and, Bool.and_true]); ((conv => whnf); (repeat (((refine Exists.intro _ (And.intro (by ((conv => whnf); (repeat ((refine And.intro (by exact rfl) ?_); (conv => whnf))))) ?_)); (conv => whnf))))); (try simp only [beq_self_eq_true, Bool.true_and, Bool.and_true]); ((conv => whnf); (repeat (((refine Exists.intro _ (And.intro (by ((conv => whnf); (repeat ((refine And.intro (by exact rfl) ?_); (conv => whnf))))) ?_)); (conv => whnf)))))
    refine AC.frame (flat_ok J) [] (by (repeat' (exact True.intro))) (by rfl) (by (repeat' (first | exact True.intro | refine And.intro ?_ ?_))) (by rfl) ?_
    rintro r0 hp0 ⟨rfl, rfl⟩
    ((conv => whnf); (repeat (first | ((with_reducible (refine And.intro (show Go.Aw.againsK _ _ _ _ _ from ?_) ?_)); (focus (repeat' (first | ((with_reducible (show Go.Aw.againsK _ _ _ _ _)); (conv => whnf)) | ((with_reducible (show Go.Aw.againK _ _ _ _ _)); (conv => whnf)) | (with_reducible (exact True.intro)) | (with_reducible (refine And.intro ?_ ?_)) | exact rfl | (simp; done)))); (conv => whnf)) | ((refine Exists.intro _ (And.intro (by ((conv => whnf); (repeat ((refine And.intro (by exact rfl) ?_); (conv => whnf))))) ?_)); (conv => whnf))))); (try simp only [beq_self_eq_true, Bool.true_and, Bool.and_true]); ((conv => whnf); (repeat (((refine Exists.intro _ (And.intro (by ((conv => whnf); (repeat ((refine And.intro (by exact rfl) ?_); (conv => whnf))))) ?_)); (conv => whnf))))); (try simp only [beq_self_eq_true, Bool.true_and, Bool.and_true]); ((conv => whnf); (repeat (((refine Exists.intro _ (And.intro (by ((conv => whnf); (repeat ((refine And.intro (by exact rfl) ?_); (conv => whnf))))) ?_)); (conv => whnf))))); (try simp only [beq_self_eq_true, Bool.true_and, Bool.and_true]); ((conv => whnf); (repeat (((refine Exists.intro _ (And.intro (by ((conv => whnf); (repeat ((refine And.intro (by exact rfl) ?_); (conv => whnf))))) ?_)); (conv => whnf))))); (try simp only [beq_self_eq_true, Bool.true_and, Bool.and_true]); ((conv => whnf); (repeat (((refine Exists.intro _ (And.intro (by ((conv => whnf); (repeat ((refine And.intro (by exact rfl) ?_); (conv => whnf))))) ?_)); (conv => whnf))))); (try simp only [beq_self_eq_true, Bool.true_and, Bool.and_true]); (conv => whnf)
    refine AC.frame (refrip_ok c conf) [] (by (repeat' (exact True.intro))) (by rfl) (by (repeat' (first | exact True.intro | refine And.intro ?_ ?_))) (by rfl) ?_
    rintro r0 hp0 ⟨rfl, rfl⟩
    rw [hR]; ((conv => whnf); (repeat (first | ((with_reducible (refine And.intro (show Go.Aw.againsK _ _ _ _ _ from ?_) ?_)); (focus (repeat' (first | ((with_reducible (show Go.Aw.againsK _ _ _ _ _)); (conv => whnf)) | ((with_reducible (show Go.Aw.againK _ _ _ _ _)); (conv => whnf)) | (with_reducible (exact True.intro)) | (with_reducible (refine And.intro ?_ ?_)) | exact rfl | (simp; done)))); (conv => whnf)) | ((refine Exists.intro _ (And.intro (by ((conv => whnf); (repeat ((refine And.intro (by exact rfl) ?_); (conv => whnf))))) ?_)); (conv => whnf))))); (try simp only [beq_self_eq_true, Bool.true_and, Bool.and_true]); ((conv => whnf); (repeat (((refine Exists.intro _ (And.intro (by ((conv => whnf); (repeat ((refine And.intro (by exact rfl) ?_); (conv => whnf))))) ?_)); (conv => whnf)))))
    refine AC.frame (ripe_ok c conf next) [] (by (repeat' (exact True.intro))) (by rfl) (by (repeat' (first | exact True.intro | refine And.intro ?_ ?_))) (by rfl) ?_
    rintro r0 hp0 ⟨rfl, rfl⟩
    rw [hR]; ((conv => whnf); (repeat (first | ((with_reducible (refine And.intro (show Go.Aw.againsK _ _ _ _ _ from ?_) ?_)); (focus (repeat' (first | ((with_reducible (show Go.Aw.againsK _ _ _ _ _)); (conv => whnf)) | ((with_reducible (show Go.Aw.againK _ _ _ _ _)); (conv => whnf)) | (with_reducible (exact True.intro)) | (with_reducible (refine And.intro ?_ ?_)) | exact rfl | (simp; done)))); (conv => whnf)) | ((refine Exists.intro _ (And.intro (by ((conv => whnf); (repeat ((refine And.intro (by exact rfl) ?_); (conv => whnf))))) ?_)); (conv => whnf))))); (try simp only [beq_self_eq_true, Bool.true_and, Bool.and_true]); (conv => whnf)
    refine AC.frame (awake14_ok) [] (by (repeat' (exact True.intro))) (by rfl) (by (repeat' (exact True.intro))) (by rfl) ?_
    rintro r0 hp0 ⟨rfl, rfl⟩
    ((conv => whnf); (repeat (first | ((with_reducible (refine And.intro (show Go.Aw.againsK _ _ _ _ _ from ?_) ?_)); (focus (repeat' (first | ((with_reducible (show Go.Aw.againsK _ _ _ _ _)); (conv => whnf)) | ((with_reducible (show Go.Aw.againK _ _ _ _ _)); (conv => whnf)) | (with_reducible (exact True.intro)) | (with_reducible (refine And.intro ?_ ?_)) | exact rfl | (simp; done)))); (conv => whnf)) | ((refine Exists.intro _ (And.intro (by ((conv => whnf); (repeat ((refine And.intro (by exact rfl) ?_); (conv => whnf))))) ?_)); (conv => whnf)))))
    refine ev_sound tokT (keep := fun _ => true) ?_
    (conv => whnf)
    (refine Left.of [] (.bool true) [] (by rfl) (by rfl) (by rfl) (by (repeat' (exact True.intro))) (by rfl) (by (repeat' (exact True.intro))) ?_)
    exact ⟨rfl, rfl⟩
end Go.Aw
