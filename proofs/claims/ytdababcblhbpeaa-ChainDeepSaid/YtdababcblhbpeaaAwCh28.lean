/-
  AwCh28: ChainDeep: the walk. Own work.
-/
import Derived.Test.YtdababcblhbpeaaAwCh27
import Derived.Test.YtdababcblhbpeaaAwCh20
import Derived.Test.YtdababcblhbpeaaM4
set_option linter.unusedVariables false
set_option linter.unusedSimpArgs false
set_option maxRecDepth 20000
set_option maxHeartbeats 4000000
open Go.Proofs
namespace Go.Aw

theorem deep_law (k n0 f0 : Int) :
    AC Try.prog 16 [.int .i64 k, .int .i64 n0, .int .i64 f0] [] (fun r hp' => r = .bool true) := by
  refine AC.left (AC.body tokT Try.func16 rfl rfl rfl (by decide) (by rfl) ?_)
  have haw := awake_ok
  refine AW.pre tokT (fun _ => true) ?_; (conv => whnf)
  refine AW.cutT (fun fr hp => (1 ≤ k ∧ k ≤ 20 ∧ 1 ≤ n0 ∧ n0 ≤ 40 ∧ 0 ≤ f0 ∧ f0 ≤ n0) ∧ fr = [(0, .int .i64 k), (1, .int .i64 n0), (2, .int .i64 f0)] ∧ hp = []) ?_ ?_
  · refine AW.cutT (fun fr hp => ∃ b, (b = false → 1 ≤ k ∧ k ≤ 20 ∧ 1 ≤ n0 ∧ n0 ≤ 40 ∧ 0 ≤ f0 ∧ f0 ≤ n0) ∧ fr = [(0, .int .i64 k), (1, .int .i64 n0), (2, .int .i64 f0), (41, .bool b)] ∧ hp = []) ?_ ?_
    · refine ev_sound tokT (keep := fun _ => true) ?_
      (conv => whnf); (cases g1 : (decide (k < 1) : Bool) <;> (try simp only [beq_iff_eq, beq_eq_false_iff_ne, ne_eq, decide_eq_true_eq, decide_eq_false_iff_not, bne_iff_ne, bne_eq_false_iff_eq, Bool.not_eq_true, Bool.not_eq_false, gt_iff_lt, ge_iff_le] at g1) <;> (try (exfalso; omega)))
      case' true =>
        (conv => whnf)
        (refine Turned.of [] [(0, .int .i64 k), (1, .int .i64 n0), (2, .int .i64 f0), (41, .bool true)] [] (by rfl) (by rfl) (by rfl) (by (repeat' (first | exact True.intro | exact rfl | refine And.intro ?_ ?_))) (by (repeat' (first | exact True.intro | exact rfl | refine And.intro ?_ ?_))) ?_)
        exact ⟨true, fun h => (by cases h), rfl, rfl⟩
      (conv => whnf); (cases g2 : (decide (k > 20) : Bool) <;> (try simp only [beq_iff_eq, beq_eq_false_iff_ne, ne_eq, decide_eq_true_eq, decide_eq_false_iff_not, bne_iff_ne, bne_eq_false_iff_eq, Bool.not_eq_true, Bool.not_eq_false, gt_iff_lt, ge_iff_le] at g2) <;> (try (exfalso; omega)))
      case' true =>
        (conv => whnf)
        (refine Turned.of [] [(0, .int .i64 k), (1, .int .i64 n0), (2, .int .i64 f0), (41, .bool true)] [] (by rfl) (by rfl) (by rfl) (by (repeat' (first | exact True.intro | exact rfl | refine And.intro ?_ ?_))) (by (repeat' (first | exact True.intro | exact rfl | refine And.intro ?_ ?_))) ?_)
        exact ⟨true, fun h => (by cases h), rfl, rfl⟩
      (conv => whnf); (cases g3 : (decide (n0 < 1) : Bool) <;> (try simp only [beq_iff_eq, beq_eq_false_iff_ne, ne_eq, decide_eq_true_eq, decide_eq_false_iff_not, bne_iff_ne, bne_eq_false_iff_eq, Bool.not_eq_true, Bool.not_eq_false, gt_iff_lt, ge_iff_le] at g3) <;> (try (exfalso; omega)))
      case' true =>
        (conv => whnf)
        (refine Turned.of [] [(0, .int .i64 k), (1, .int .i64 n0), (2, .int .i64 f0), (41, .bool true)] [] (by rfl) (by rfl) (by rfl) (by (repeat' (first | exact True.intro | exact rfl | refine And.intro ?_ ?_))) (by (repeat' (first | exact True.intro | exact rfl | refine And.intro ?_ ?_))) ?_)
        exact ⟨true, fun h => (by cases h), rfl, rfl⟩
      (conv => whnf); (cases g4 : (decide (n0 > 40) : Bool) <;> (try simp only [beq_iff_eq, beq_eq_false_iff_ne, ne_eq, decide_eq_true_eq, decide_eq_false_iff_not, bne_iff_ne, bne_eq_false_iff_eq, Bool.not_eq_true, Bool.not_eq_false, gt_iff_lt, ge_iff_le] at g4) <;> (try (exfalso; omega)))
      case' true =>
        (conv => whnf)
        (refine Turned.of [] [(0, .int .i64 k), (1, .int .i64 n0), (2, .int .i64 f0), (41, .bool true)] [] (by rfl) (by rfl) (by rfl) (by (repeat' (first | exact True.intro | exact rfl | refine And.intro ?_ ?_))) (by (repeat' (first | exact True.intro | exact rfl | refine And.intro ?_ ?_))) ?_)
        exact ⟨true, fun h => (by cases h), rfl, rfl⟩
      (conv => whnf); (cases g5 : (decide (f0 < 0) : Bool) <;> (try simp only [beq_iff_eq, beq_eq_false_iff_ne, ne_eq, decide_eq_true_eq, decide_eq_false_iff_not, bne_iff_ne, bne_eq_false_iff_eq, Bool.not_eq_true, Bool.not_eq_false, gt_iff_lt, ge_iff_le] at g5) <;> (try (exfalso; omega)))
      case' true =>
        (conv => whnf)
        (refine Turned.of [] [(0, .int .i64 k), (1, .int .i64 n0), (2, .int .i64 f0), (41, .bool true)] [] (by rfl) (by rfl) (by rfl) (by (repeat' (first | exact True.intro | exact rfl | refine And.intro ?_ ?_))) (by (repeat' (first | exact True.intro | exact rfl | refine And.intro ?_ ?_))) ?_)
        exact ⟨true, fun h => (by cases h), rfl, rfl⟩
      (conv => whnf)
      (refine Turned.of [] [(0, .int .i64 k), (1, .int .i64 n0), (2, .int .i64 f0), (41, .bool (decide (f0 > n0)))] [] (by rfl) (by rfl) (by rfl) (by (repeat' (first | exact True.intro | exact rfl | refine And.intro ?_ ?_))) (by (repeat' (first | exact True.intro | exact rfl | refine And.intro ?_ ?_))) ?_)
      exact ⟨_, fun h => ⟨by omega, by omega, by omega, by omega, by omega, by have := of_decide_eq_false h; omega⟩, rfl, rfl⟩
    rintro fr hp ⟨b, hb, rfl, rfl⟩
    refine AW.condK ?_
    (conv => whnf)
    cases b with
    | true =>
      (conv => whnf)
      refine AW.pre tokT (fun _ => true) ?_; (conv => whnf)
      refine AC.pure (v := .bool true) haw (by simp [AV.inns]) (by simp [AV.inn]) ?_
      (conv => whnf)
      refine ev_sound tokT (keep := fun _ => true) ?_
      (conv => whnf)
      (refine Left.of [] (.bool true) [] (by rfl) (by rfl) (by rfl) (by (repeat' (exact True.intro))) (by rfl) (by (repeat' (exact True.intro))) ?_)
      rfl
    | false =>
      refine ev_sound tokT (keep := fun _ => true) ?_
      (conv => whnf)
      (refine Turned.of [] [(0, .int .i64 k), (1, .int .i64 n0), (2, .int .i64 f0)] [] (by rfl) (by rfl) (by rfl) (by (repeat' (first | exact True.intro | exact rfl | refine And.intro ?_ ?_))) (by (repeat' (first | exact True.intro | exact rfl | refine And.intro ?_ ?_))) ?_)
      exact ⟨hb rfl, rfl, rfl⟩
  rintro fr hp ⟨⟨hk1, hk2, hn1, hn2, hf1, hf2⟩, rfl, rfl⟩
  obtain ⟨n, rfl⟩ := Int.eq_ofNat_of_zero_le (show 0 ≤ n0 by omega)
  obtain ⟨f, rfl⟩ := Int.eq_ofNat_of_zero_le hf1
  have hn40 : n ≤ 40 := by omega
  have hfn : f ≤ n := by omega
  refine AW.pre tokT (fun _ => true) ?_; (conv => whnf)
  refine AW.nils [7] 2 (.row []) _ _ rfl rfl rfl ?_
  refine AW.cutT (fun fr hp => fr = [(0, .int .i64 k), (1, .int .i64 (n : Int)), (2, .int .i64 (f : Int)), (7, .sl 0 0 n none)] ∧ hp = [⟨2, false, none, .row (rowMd (mline 1 n))⟩]) ?_ ?_
  · refine AW.pre tokT (fun _ => true) ?_; (conv => whnf)
    (refine AW.turnL [0] [(0, .int .i64 k), (1, .int .i64 (n : Int)), (2, .int .i64 (f : Int)), (7, .sl 0 0 0 none), (8, .int .i64 0)] [⟨2, false, none, .row (rowMd (mline 1 0))⟩] (by rfl) (by rfl) (by rfl) (by (repeat' (first | exact True.intro | exact rfl | refine And.intro ?_ ?_ | (simp [AV.ren, AV.rens, AObj.ren, Ent.ren, AV.inn, AV.inns, AObj.inn, *]; done)))) (by (repeat' (first | exact True.intro | exact rfl | refine And.intro ?_ ?_ | (simp [AV.ren, AV.rens, AObj.ren, Ent.ren, AV.inn, AV.inns, AObj.inn, *]; done)))) ?_)
    refine AW.block ?_
    refine AW.loop (fun u fr hp => ∃ i : Nat, u = n - i ∧ i ≤ n ∧ fr = [(0, .int .i64 k), (1, .int .i64 (n : Int)), (2, .int .i64 (f : Int)), (7, .sl 0 0 i none), (8, .int .i64 (i : Int))] ∧ hp = [⟨2, false, none, .row (rowMd (mline 1 i))⟩]) n ?_ ?_
    · exact ⟨0, by omega, by omega, rfl, rfl⟩
    · rintro u fr hp ⟨i, rfl, hi, rfl, rfl⟩ -
      refine AW.post ?_
      refine AW.pre tokT (fun _ => true) ?_; (conv => whnf)
      by_cases hil : i < n
      case neg =>
        rw [decide_eq_false (show ¬ (i : Int) < (n : Int) by omega)]
        (conv => whnf)
        have hie : n = i := by omega
        subst hie
        (refine Turned.of [0] [(0, .int .i64 k), (1, .int .i64 (n : Int)), (2, .int .i64 (f : Int)), (7, .sl 0 0 n none)] [⟨2, false, none, .row (rowMd (mline 1 n))⟩] (by rfl) (by rfl) (by rfl) (by (repeat' (first | exact True.intro | exact rfl | refine And.intro ?_ ?_ | (simp [AV.ren, AV.rens, AObj.ren, Ent.ren, AV.inn, AV.inns, AObj.inn, *]; done)))) (by (repeat' (first | exact True.intro | exact rfl | refine And.intro ?_ ?_ | (simp [AV.ren, AV.rens, AObj.ren, Ent.ren, AV.inn, AV.inns, AObj.inn, *]; done)))) ?_)
        exact ⟨rfl, rfl⟩
      rw [decide_eq_true (show (i : Int) < (n : Int) by omega)]
      (conv => whnf)
      refine AW.seq ?_
      refine AW.block ?_
      have hsn := rowMd_snoc (mline 1 i) i ⟨(i : Int), 1⟩ (mline_len 1 i).symm
      rw [← mline_succ] at hsn
      simp only [] at hsn
      refine ev_sound tokT (keep := fun _ => true) ?_
      ((conv => whnf); (repeat (((refine And.intro (by first | (simp; done) | (simp [roomMost]; omega)) ?_); (conv => whnf)))))
      rw [hsn]
      refine ev_sound tokT (keep := fun _ => true) ?_
      (conv => whnf)
      rw [IntWalk.i64_in ((i : Int) + 1) (by omega)]
      (refine Turned.of [2] [(0, .int .i64 k), (1, .int .i64 (n : Int)), (2, .int .i64 (f : Int)), (7, .sl 0 0 (i + 1) none), (8, .int .i64 ((i + 1 : Nat) : Int))] [⟨2, false, none, .row (rowMd (mline 1 (i + 1)))⟩] (by rfl) (by rfl) (by rfl) (by (repeat' (first | exact True.intro | exact rfl | refine And.intro ?_ ?_ | (simp [AV.ren, AV.rens, AObj.ren, Ent.ren, AV.inn, AV.inns, AObj.inn, *]; done)))) (by (repeat' (first | exact True.intro | exact rfl | refine And.intro ?_ ?_ | (simp [AV.ren, AV.rens, AObj.ren, Ent.ren, AV.inn, AV.inns, AObj.inn, *]; done)))) ?_)
      exact ⟨n - (i + 1), by omega, i + 1, rfl, by omega, rfl, rfl⟩
  rintro fr hp ⟨rfl, rfl⟩
  obtain ⟨ml, hml⟩ : ∃ ml, mline 1 n ++ [⟨(f : Int), 1000⟩] = ml := ⟨_, rfl⟩
  have hmll : ml.length = n + 1 := by rw [← hml, List.length_append, mline_len]; rfl
  have hsn := rowMd_snoc (mline 1 n) n ⟨(f : Int), 1000⟩ (mline_len 1 n).symm
  rw [hml] at hsn
  simp only [] at hsn
  refine AW.cutT (fun fr hp => fr = [(0, .int .i64 k), (1, .int .i64 (n : Int)), (2, .int .i64 (f : Int)), (7, .sl 0 0 (n + 1) none)] ∧ hp = [⟨2, false, none, .row (rowMd ml)⟩]) ?_ ?_
  · refine ev_sound tokT (keep := fun _ => true) ?_
    ((conv => whnf); (repeat (((refine And.intro (by first | (simp; done) | (simp [roomMost]; omega)) ?_); (conv => whnf)))))
    rw [hsn]
    (refine Turned.of [2] [(0, .int .i64 k), (1, .int .i64 (n : Int)), (2, .int .i64 (f : Int)), (7, .sl 0 0 (n + 1) none)] [⟨2, false, none, .row (rowMd ml)⟩] (by rfl) (by rfl) (by rfl) (by (repeat' (first | exact True.intro | exact rfl | refine And.intro ?_ ?_ | (simp [AV.ren, AV.rens, AObj.ren, Ent.ren, AV.inn, AV.inns, AObj.inn, *]; done)))) (by (repeat' (first | exact True.intro | exact rfl | refine And.intro ?_ ?_ | (simp [AV.ren, AV.rens, AObj.ren, Ent.ren, AV.inn, AV.inns, AObj.inn, *]; done)))) ?_)
    exact ⟨rfl, rfl⟩
  rintro fr hp ⟨rfl, rfl⟩
  have hcast := cast_ok ml none (by omega)
  rw [hmll] at hcast
  obtain ⟨hLw, hLl, hL0⟩ := castA_props ml
  have hmi : ∀ i, i < n → ml[i]? = some ⟨(i : Int), 1⟩ := fun i hi => by rw [← hml, List.getElem?_append_left (by rw [mline_len]; omega)]; exact mline_get hi
  have hLine := fun j (hj : j ≤ n) => cast_line idsD_ok (l := ml) j (by omega) fun i hi => hmi i (by omega)
  have hLast := castA_at (l := ml) (j := n) (u := f) (wk := 1000) (by rw [← hml, List.getElem?_append_right (by rw [mline_len]; omega), mline_len]; simp) hfn
  rw [(hLine f hfn).1] at hLast
  obtain ⟨L, hL⟩ : ∃ L, castA ml = L := ⟨_, rfl⟩
  rw [hL] at hcast hLw hLl hL0 hLine hLast
  rw [hmll] at hLl
  have hrL0 : (rowHd L)[0 + Int.toNat 0]? = some gen0.segs := by simp [rowHd, hL0]
  have hnb : newB gen0 k 5 = true := by
    unfold newB
    rw [show mayB gen0 = true by unfold mayB; decide, Bool.true_and]
    exact decide_eq_true ⟨hk1, by omega, by decide, by decide⟩
  have hnew := new_ok gen0 k 5 gen0_wf hnb
  obtain ⟨k0, t0⟩ := new_inv gen0 k 5 gen0_wf hnb
  have hl0 := line_new idsD_ok k 5 1 fun _ _ => False
  obtain ⟨c0, hc0⟩ : ∃ c0, newC gen0 k 5 = c0 := ⟨_, rfl⟩
  rw [hc0] at hnew k0 t0 hl0
  refine AW.cutT (fun fr hp => fr = [(0, .int .i64 k), (1, .int .i64 (n : Int)), (2, .int .i64 (f : Int)), (9, .sl 0 0 (n + 1 + 1) none)] ∧ hp = [⟨66, false, none, .row (rowHd L)⟩]) ?_ ?_
  · refine ev_sound tokT (keep := fun _ => true) ?_
    (conv => whnf)
    refine AC.frame hcast [0] (by (repeat' (first | exact True.intro | exact rfl | refine And.intro ?_ ?_ | (simp [AV.ren, AV.rens, AObj.ren, Ent.ren, AV.inn, AV.inns, AObj.inn, *]; done)))) (by rfl) (by (repeat' (first | exact True.intro | refine And.intro ?_ ?_ | (simp [AV.ren, AV.rens, AObj.ren, Ent.ren, AV.inn, AV.inns, AObj.inn, *]; done)))) (by rfl) ?_
    rintro r0 hp0 ⟨rfl, rfl⟩
    (conv => whnf)
    (refine Turned.of [1] [(0, .int .i64 k), (1, .int .i64 (n : Int)), (2, .int .i64 (f : Int)), (9, .sl 0 0 (n + 1 + 1) none)] [⟨66, false, none, .row (rowHd L)⟩] (by rfl) (by rfl) (by rfl) (by (repeat' (first | exact True.intro | exact rfl | refine And.intro ?_ ?_ | (simp [AV.ren, AV.rens, AObj.ren, Ent.ren, AV.inn, AV.inns, AObj.inn, *]; done)))) (by (repeat' (first | exact True.intro | exact rfl | refine And.intro ?_ ?_ | (simp [AV.ren, AV.rens, AObj.ren, Ent.ren, AV.inn, AV.inns, AObj.inn, *]; done)))) ?_)
    exact ⟨rfl, rfl⟩
  rintro fr hp ⟨rfl, rfl⟩
  refine AW.cutT (fun fr hp => fr = [(0, .int .i64 k), (1, .int .i64 (n : Int)), (2, .int .i64 (f : Int)), (9, .sl 4 0 (n + 1 + 1) none), (10, .ptr 0 0 0 0), (11, .int .i64 0)] ∧ hp = [c0.varE false 1 2 3, c0.mapE false, c0.wayE false, c0.orpE false, ⟨66, false, none, .row (rowHd L)⟩]) ?_ ?_
  · unfold Ch.varE Ch.mapE Ch.wayE Ch.orpE
    refine ev_sound tokT (keep := fun _ => true) ?_
    ((conv => whnf); (repeat (((refine And.intro (by omega) ?_); (conv => whnf)))))
    rw [hrL0]
    (conv => whnf)
    refine AC.frame hnew [] (by (repeat' (exact True.intro))) (by rfl) (by (repeat' (first | exact True.intro | refine And.intro ?_ ?_))) (by rfl) ?_
    rintro r0 hp0 ⟨rfl, rfl⟩
    (conv => whnf)
    (refine Turned.of [1, 2, 3, 4, 0] [(0, .int .i64 k), (1, .int .i64 (n : Int)), (2, .int .i64 (f : Int)), (9, .sl 4 0 (n + 1 + 1) none), (10, .ptr 0 0 0 0), (11, .int .i64 0)] [c0.varE false 1 2 3, c0.mapE false, c0.wayE false, c0.orpE false, ⟨66, false, none, .row (rowHd L)⟩] (by rfl) (by rfl) (by rfl) (by (repeat' (first | exact True.intro | exact rfl | refine And.intro ?_ ?_ | (simp [AV.ren, AV.rens, AObj.ren, Ent.ren, AV.inn, AV.inns, AObj.inn, *]; done)))) (by (repeat' (first | exact True.intro | exact rfl | refine And.intro ?_ ?_ | (simp [AV.ren, AV.rens, AObj.ren, Ent.ren, AV.inn, AV.inns, AObj.inn, *]; done)))) ?_)
    exact ⟨rfl, rfl⟩
  rintro fr hp ⟨rfl, rfl⟩
  refine AW.cutT (fun fr hp => fr = [(0, .int .i64 k), (1, .int .i64 (n : Int)), (2, .int .i64 (f : Int)), (9, .sl 4 0 (n + 1 + 1) none), (10, .ptr 0 0 0 0)] ∧ hp = [c0.varE false 1 2 3, c0.mapE false, c0.wayE false, c0.orpE false, ⟨66, false, none, .row (rowHd L)⟩]) ?_ ?_
  · unfold Ch.varE Ch.mapE Ch.wayE Ch.orpE
    refine ev_sound tokT (keep := fun _ => true) ?_
    (conv => whnf)
    (refine Turned.of [0, 1, 2, 3, 4] [(0, .int .i64 k), (1, .int .i64 (n : Int)), (2, .int .i64 (f : Int)), (9, .sl 4 0 (n + 1 + 1) none), (10, .ptr 0 0 0 0)] [c0.varE false 1 2 3, c0.mapE false, c0.wayE false, c0.orpE false, ⟨66, false, none, .row (rowHd L)⟩] (by rfl) (by rfl) (by rfl) (by (repeat' (first | exact True.intro | exact rfl | refine And.intro ?_ ?_ | (simp [AV.ren, AV.rens, AObj.ren, Ent.ren, AV.inn, AV.inns, AObj.inn, *]; done)))) (by (repeat' (first | exact True.intro | exact rfl | refine And.intro ?_ ?_ | (simp [AV.ren, AV.rens, AObj.ren, Ent.ren, AV.inn, AV.inns, AObj.inn, *]; done)))) ?_)
    exact ⟨rfl, rfl⟩
  rintro fr hp ⟨rfl, rfl⟩
  refine AW.cutT (fun fr hp => ∃ c, (KOk c n ∧ Tree c ∧ Line c idsD n k 1 fun _ _ => False) ∧ fr = [(0, .int .i64 k), (1, .int .i64 (n : Int)), (2, .int .i64 (f : Int)), (9, .sl 4 0 (n + 1 + 1) none), (10, .ptr 0 0 0 0)] ∧ hp = [c.varE false 1 2 3, c.mapE false, c.wayE false, c.orpE false, ⟨66, false, none, .row (rowHd L)⟩]) ?_ ?_
  · unfold Ch.varE Ch.mapE Ch.wayE Ch.orpE
    refine AW.pre tokT (fun _ => true) ?_; (conv => whnf)
    refine AW.block ?_
    (refine AW.turnL [0, 1, 2, 3, 4] [(0, .int .i64 k), (1, .int .i64 (n : Int)), (2, .int .i64 (f : Int)), (9, .sl 4 0 (n + 1 + 1) none), (10, .ptr 0 0 0 0), (12, .int .i64 ((0 + 1 : Nat) : Int))] [c0.varE false 1 2 3, c0.mapE false, c0.wayE false, c0.orpE false, ⟨66, false, none, .row (rowHd L)⟩] (by rfl) (by rfl) (by rfl) (by (repeat' (first | exact True.intro | exact rfl | refine And.intro ?_ ?_ | (simp [AV.ren, AV.rens, AObj.ren, Ent.ren, AV.inn, AV.inns, AObj.inn, *]; done)))) (by (repeat' (first | exact True.intro | exact rfl | refine And.intro ?_ ?_ | (simp [AV.ren, AV.rens, AObj.ren, Ent.ren, AV.inn, AV.inns, AObj.inn, *]; done)))) ?_)
    refine AW.loop (fun u fr hp => ∃ (i : Nat) (c : Ch), u = n - i ∧ i ≤ n ∧ (KOk c i ∧ Tree c ∧ Line c idsD i k 1 fun _ _ => False) ∧ fr = [(0, .int .i64 k), (1, .int .i64 (n : Int)), (2, .int .i64 (f : Int)), (9, .sl 4 0 (n + 1 + 1) none), (10, .ptr 0 0 0 0), (12, .int .i64 ((i + 1 : Nat) : Int))] ∧ hp = [c.varE false 1 2 3, c.mapE false, c.wayE false, c.orpE false, ⟨66, false, none, .row (rowHd L)⟩]) n ?_ ?_
    · exact ⟨0, c0, by omega, by omega, ⟨k0, t0, hl0⟩, rfl, rfl⟩
    · rintro u fr hp ⟨i, c, rfl, hi, ⟨hc, ht, hl⟩, rfl, rfl⟩ -
      refine AW.post ?_
      unfold Ch.varE Ch.mapE Ch.wayE Ch.orpE
      refine AW.pre tokT (fun _ => true) ?_; (conv => whnf)
      by_cases hil : i < n
      case neg =>
        rw [decide_eq_false (show ¬ ((i + 1 : Nat) : Int) ≤ (n : Int) by omega)]
        (conv => whnf)
        have hie : n = i := by omega
        subst hie
        (refine Turned.of [0, 1, 2, 3, 4] [(0, .int .i64 k), (1, .int .i64 (n : Int)), (2, .int .i64 (f : Int)), (9, .sl 4 0 (n + 1 + 1) none), (10, .ptr 0 0 0 0)] [c.varE false 1 2 3, c.mapE false, c.wayE false, c.orpE false, ⟨66, false, none, .row (rowHd L)⟩] (by rfl) (by rfl) (by rfl) (by (repeat' (first | exact True.intro | exact rfl | refine And.intro ?_ ?_ | (simp [AV.ren, AV.rens, AObj.ren, Ent.ren, AV.inn, AV.inns, AObj.inn, *]; done)))) (by (repeat' (first | exact True.intro | exact rfl | refine And.intro ?_ ?_ | (simp [AV.ren, AV.rens, AObj.ren, Ent.ren, AV.inn, AV.inns, AObj.inn, *]; done)))) ?_)
        exact ⟨c, ⟨hc, ht, hl⟩, rfl, rfl⟩
      rw [decide_eq_true (show ((i + 1 : Nat) : Int) ≤ (n : Int) by omega)]
      (conv => whnf)
      refine AW.seq ?_
      refine AW.block ?_
      obtain ⟨h, hh⟩ : ∃ h, L.getD (i + 1) default = h := ⟨_, rfl⟩
      have hrq : (rowHd L)[0 + ((i + 1 : Nat) : Int).toNat]? = some h.segs := by rw [Nat.zero_add, Int.toNat_natCast, ← hh]; exact hd_at L _ (by omega)
      have hhe : h = ⟨idI idsD i, List.replicate 32 0, 1, (i : Int)⟩ := by
        rw [← hh]
        simp [(hLine (i + 1) (by omega)).2 (by omega)]
      have hw : h.wf := by rw [← hh]; simp [List.getElem?_eq_getElem (show i + 1 < L.length by omega)]; exact hLw _ (List.getElem_mem _)
      have hadd := add_ok c hc ht (by omega) h hw
      obtain ⟨k2, t2⟩ := adds_inv hc ht (by omega) h hw
      obtain ⟨_, he0, hE1, hl2, _⟩ := line_add idsD_ok hc ht (by omega) hl (by omega) (by omega) rfl (by omega) (fun _ _ q => q.elim) hhe hw
      obtain ⟨c2, hc2⟩ : ∃ c2, (addC c h).1 = c2 := ⟨_, rfl⟩
      obtain ⟨E, hE⟩ : ∃ E, (addC c h).2.1 = E := ⟨_, rfl⟩
      rw [hc2, hE, he0] at hadd
      rw [hE] at hE1
      rw [hc2] at k2 t2 hl2
      unfold Ch.varE Ch.mapE Ch.wayE Ch.orpE at hadd
      refine AW.cutT (fun fr hp => fr = [(0, .int .i64 k), (1, .int .i64 (n : Int)), (2, .int .i64 (f : Int)), (9, .sl 4 0 (n + 1 + 1) none), (10, .ptr 0 0 0 0), (12, .int .i64 ((i + 1 : Nat) : Int)), (13, .sl 5 0 E.length none), (14, .int .i64 0)] ∧ hp = [c2.varE false 1 2 3, c2.mapE false, c2.wayE false, c2.orpE false, ⟨66, false, none, .row (rowHd L)⟩, ⟨34, false, none, .row (rowE E)⟩]) ?_ ?_
      · unfold Ch.varE Ch.mapE Ch.wayE Ch.orpE
        refine ev_sound tokT (keep := fun _ => true) ?_
        ((conv => whnf); (repeat (((refine And.intro (by omega) ?_); (conv => whnf)))))
        rw [hrq]
        (conv => whnf)
        refine AC.frame hadd [0, 1, 2, 3] (by (repeat' (first | exact True.intro | exact rfl | refine And.intro ?_ ?_ | (simp [AV.ren, AV.rens, AObj.ren, Ent.ren, AV.inn, AV.inns, AObj.inn, *]; done)))) (by rfl) (by (repeat' (first | exact True.intro | refine And.intro ?_ ?_ | (simp [AV.ren, AV.rens, AObj.ren, Ent.ren, AV.inn, AV.inns, AObj.inn, *]; done)))) (by rfl) ?_
        rintro r0 hp0 ⟨rfl, rfl⟩
        (conv => whnf)
        (refine Turned.of [0, 1, 5, 6, 4, 7] [(0, .int .i64 k), (1, .int .i64 (n : Int)), (2, .int .i64 (f : Int)), (9, .sl 4 0 (n + 1 + 1) none), (10, .ptr 0 0 0 0), (12, .int .i64 ((i + 1 : Nat) : Int)), (13, .sl 5 0 E.length none), (14, .int .i64 0)] [c2.varE false 1 2 3, c2.mapE false, c2.wayE false, c2.orpE false, ⟨66, false, none, .row (rowHd L)⟩, ⟨34, false, none, .row (rowE E)⟩] (by rfl) (by rfl) (by rfl) (by (repeat' (first | exact True.intro | exact rfl | refine And.intro ?_ ?_ | (simp [AV.ren, AV.rens, AObj.ren, Ent.ren, AV.inn, AV.inns, AObj.inn, *]; done)))) (by (repeat' (first | exact True.intro | exact rfl | refine And.intro ?_ ?_ | (simp [AV.ren, AV.rens, AObj.ren, Ent.ren, AV.inn, AV.inns, AObj.inn, *]; done)))) ?_)
        exact ⟨rfl, rfl⟩
      rintro fr hp ⟨rfl, rfl⟩
      unfold Ch.varE Ch.mapE Ch.wayE Ch.orpE
      refine ev_sound tokT (keep := fun _ => true) ?_
      (conv => whnf)
      rw [show ((E.length : Int) != 1) = false by rw [hE1]; rfl]
      (conv => whnf)
      refine ev_sound tokT (keep := fun _ => true) ?_
      (conv => whnf)
      rw [IntWalk.i64_in (((i + 1 : Nat) : Int) + 1) (by omega)]
      (refine Turned.of [0, 1, 2, 3, 4] [(0, .int .i64 k), (1, .int .i64 (n : Int)), (2, .int .i64 (f : Int)), (9, .sl 4 0 (n + 1 + 1) none), (10, .ptr 0 0 0 0), (12, .int .i64 ((i + 1 + 1 : Nat) : Int))] [c2.varE false 1 2 3, c2.mapE false, c2.wayE false, c2.orpE false, ⟨66, false, none, .row (rowHd L)⟩] (by rfl) (by rfl) (by rfl) (by (repeat' (first | exact True.intro | exact rfl | refine And.intro ?_ ?_ | (simp [AV.ren, AV.rens, AObj.ren, Ent.ren, AV.inn, AV.inns, AObj.inn, *]; done)))) (by (repeat' (first | exact True.intro | exact rfl | refine And.intro ?_ ?_ | (simp [AV.ren, AV.rens, AObj.ren, Ent.ren, AV.inn, AV.inns, AObj.inn, *]; done)))) ?_)
      exact ⟨n - (i + 1), by omega, i + 1, c2, rfl, by omega, ⟨k2, t2, hl2⟩, rfl, rfl⟩
  rintro fr hp ⟨c, ⟨hc, ht, hl⟩, rfl, rfl⟩
  obtain ⟨h, hh⟩ : ∃ h, L.getD (n + 1) default = h := ⟨_, rfl⟩
  have hhe : h = ⟨idI idsD f, List.replicate 32 0, 1000, (n : Int)⟩ := by rw [← hh]; simp [hLast]
  have hrq : (rowHd L)[0 + ((n + 1 : Nat) : Int).toNat]? = some h.segs := by rw [Nat.zero_add, Int.toNat_natCast, ← hh]; exact hd_at L _ (by omega)
  have hw : h.wf := by rw [← hh]; simp [List.getElem?_eq_getElem (show n + 1 < L.length by omega)]; exact hLw _ (List.getElem_mem _)
  have hadd := add_ok c hc ht (by omega) h hw
  obtain ⟨k2, t2⟩ := adds_inv hc ht (by omega) h hw
  obtain ⟨hd1, hd2⟩ := deep_end hc ht (by omega) hl ⟨by omega, hn40⟩ hfn hhe hw
  obtain ⟨c2, hc2⟩ : ∃ c2, (addC c h).1 = c2 := ⟨_, rfl⟩
  obtain ⟨E, hE⟩ : ∃ E, (addC c h).2.1 = E := ⟨_, rfl⟩
  obtain ⟨e, he⟩ : ∃ e, (addC c h).2.2 = e := ⟨_, rfl⟩
  rw [hc2, hE, he] at hadd
  rw [hc2] at k2 t2
  rw [hc2, hE, he] at hd2
  unfold Ch.varE Ch.mapE Ch.wayE Ch.orpE at hadd
  refine AW.cutT (fun fr hp => fr = [(0, .int .i64 k), (1, .int .i64 (n : Int)), (2, .int .i64 (f : Int)), (9, .sl 4 0 (n + 1 + 1) none), (10, .ptr 0 0 0 0), (15, .sl 5 0 E.length none), (16, .int .i64 e)] ∧ hp = [c2.varE false 1 2 3, c2.mapE false, c2.wayE false, c2.orpE false, ⟨66, false, none, .row (rowHd L)⟩, ⟨34, false, none, .row (rowE E)⟩]) ?_ ?_
  · unfold Ch.varE Ch.mapE Ch.wayE Ch.orpE
    refine ev_sound tokT (keep := fun _ => true) ?_
    ((conv => whnf); (repeat (((refine And.intro (by ((repeat (first | rw [IntWalk.i64_in _ (by omega)] | rw [IntWalk.u8_in _ (by omega)] | rw [IntWalk.u32_in _ (by omega)] | rw [IntWalk.u64_in _ (by omega)])); omega)) ?_); (conv => whnf)))))
    rw [IntWalk.i64_in ((n : Int) + 1) (by omega), show (n : Int) + 1 = ((n + 1 : Nat) : Int) by omega, hrq]
    (conv => whnf)
    refine AC.frame hadd [0, 1, 2, 3] (by (repeat' (first | exact True.intro | exact rfl | refine And.intro ?_ ?_ | (simp [AV.ren, AV.rens, AObj.ren, Ent.ren, AV.inn, AV.inns, AObj.inn, *]; done)))) (by rfl) (by (repeat' (first | exact True.intro | refine And.intro ?_ ?_ | (simp [AV.ren, AV.rens, AObj.ren, Ent.ren, AV.inn, AV.inns, AObj.inn, *]; done)))) (by rfl) ?_
    rintro r0 hp0 ⟨rfl, rfl⟩
    (conv => whnf)
    (refine Turned.of [0, 1, 5, 6, 4, 7] [(0, .int .i64 k), (1, .int .i64 (n : Int)), (2, .int .i64 (f : Int)), (9, .sl 4 0 (n + 1 + 1) none), (10, .ptr 0 0 0 0), (15, .sl 5 0 E.length none), (16, .int .i64 e)] [c2.varE false 1 2 3, c2.mapE false, c2.wayE false, c2.orpE false, ⟨66, false, none, .row (rowHd L)⟩, ⟨34, false, none, .row (rowE E)⟩] (by rfl) (by rfl) (by rfl) (by (repeat' (first | exact True.intro | exact rfl | refine And.intro ?_ ?_ | (simp [AV.ren, AV.rens, AObj.ren, Ent.ren, AV.inn, AV.inns, AObj.inn, *]; done)))) (by (repeat' (first | exact True.intro | exact rfl | refine And.intro ?_ ?_ | (simp [AV.ren, AV.rens, AObj.ren, Ent.ren, AV.inn, AV.inns, AObj.inn, *]; done)))) ?_)
    exact ⟨rfl, rfl⟩
  rintro fr hp ⟨rfl, rfl⟩
  have htip := tip_ok c2 k2.way.1 k2.wayn k2.lens
  have hw0 := k2.way.1
  have hwn2 := k2.wayn
  have hhal := halted_ok c2 k2.way.1
  unfold Ch.varE Ch.mapE Ch.wayE Ch.orpE at htip hhal
  refine AW.cutT (fun fr hp => fr = [(0, .int .i64 k), (1, .int .i64 (n : Int)), (2, .int .i64 (f : Int)), (9, .sl 4 0 (n + 1 + 1) none), (10, .ptr 0 0 0 0), (15, .sl 5 0 E.length none), (16, .int .i64 e), (17, .ptr 6 0 0 0), (18, .int .i64 ((c2.way.length : Int) - 1))] ∧ hp = [c2.varE false 1 2 3, c2.mapE false, c2.wayE false, c2.orpE false, ⟨66, false, none, .row (rowHd L)⟩, ⟨34, false, none, .row (rowE E)⟩, ⟨32, false, none, .var [.ints .u8 32 c2.tip]⟩]) ?_ ?_
  · unfold Ch.varE Ch.mapE Ch.wayE Ch.orpE
    refine ev_sound tokT (keep := fun _ => true) ?_
    (conv => whnf)
    refine AC.frame htip [0, 1, 2, 3] (by (repeat' (first | exact True.intro | exact rfl | refine And.intro ?_ ?_ | (simp [AV.ren, AV.rens, AObj.ren, Ent.ren, AV.inn, AV.inns, AObj.inn, *]; done)))) (by rfl) (by (repeat' (first | exact True.intro | refine And.intro ?_ ?_ | (simp [AV.ren, AV.rens, AObj.ren, Ent.ren, AV.inn, AV.inns, AObj.inn, *]; done)))) (by rfl) ?_
    rintro r0 hp0 ⟨rfl, rfl⟩
    (conv => whnf)
    (refine Turned.of [0, 1, 2, 3, 4, 5, 6] [(0, .int .i64 k), (1, .int .i64 (n : Int)), (2, .int .i64 (f : Int)), (9, .sl 4 0 (n + 1 + 1) none), (10, .ptr 0 0 0 0), (15, .sl 5 0 E.length none), (16, .int .i64 e), (17, .ptr 6 0 0 0), (18, .int .i64 ((c2.way.length : Int) - 1))] [c2.varE false 1 2 3, c2.mapE false, c2.wayE false, c2.orpE false, ⟨66, false, none, .row (rowHd L)⟩, ⟨34, false, none, .row (rowE E)⟩, ⟨32, false, none, .var [.ints .u8 32 c2.tip]⟩] (by rfl) (by rfl) (by rfl) (by (repeat' (first | exact True.intro | exact rfl | refine And.intro ?_ ?_ | (simp [AV.ren, AV.rens, AObj.ren, Ent.ren, AV.inn, AV.inns, AObj.inn, *]; done)))) (by (repeat' (first | exact True.intro | exact rfl | refine And.intro ?_ ?_ | (simp [AV.ren, AV.rens, AObj.ren, Ent.ren, AV.inn, AV.inns, AObj.inn, *]; done)))) ?_)
    exact ⟨rfl, rfl⟩
  rintro fr hp ⟨rfl, rfl⟩
  unfold Ch.varE Ch.mapE Ch.wayE Ch.orpE
  refine AW.pre tokT (fun _ => true) ?_; (conv => whnf)
  rw [IntWalk.i64_in ((n : Int) - k) (by omega)]
  cases hfk : decide ((f : Int) < (n : Int) - k) with
  | true =>
    (conv => whnf)
    have hA := hd1 (of_decide_eq_true hfk)
    rw [hA] at hc2 hE he
    simp only [] at hc2 hE he
    subst hc2 he
    have hwl : c.way.length = n + 1 := by rw [hl.way, lineW_len]
    obtain ⟨hn, hhn⟩ : ∃ h, L.getD n default = h := ⟨_, rfl⟩
    have hrn : (rowHd L)[0 + (n : Int).toNat]? = some hn.segs := by rw [Nat.zero_add, Int.toNat_natCast, ← hhn]; exact hd_at L _ (by omega)
    have hnw : hn.wf := by rw [← hhn]; simp [List.getElem?_eq_getElem (show n < L.length by omega)]; exact hLw _ (List.getElem_mem _)
    have hri := refid_ok hn hnw
    have hidn : hidOf hn = c.tip := by rw [← hhn, (hLine n (Nat.le_refl n)).1, hl.tip]
    rw [hidn] at hri
    have hii : (c.tip == c.tip) = true := by simp
    have hgo := hl.calm.go
    have hq : ((c.way.length : Int) - 1 == (n : Int)) = true := by rw [hwl]; simp
    refine AW.drawT (.pure 0 (.pure 1 (.pure 2 (.pure 3 (.pure 4 (.pure 5 (.pure 6 (.pure 7 (.one 8 (.pure 9 (.pure 10 (.pure 11 (.pure 12 (.one 13 (.pure 14 (.pure 15 (.pure 16 (.pure 17 (.pure 18 (.pure 19 (.pure 20 (.pure 21 (.one 22 (.pure 23 (.pure 24 .fin))))))))))))))))))))))))) (keep := fun _ => true) mixed_okC tokT (by kernel_rfl) (by kernel_rfl) ?_
    (conv => whnf); (repeat (refine Exists.intro _ (And.intro (by (conv => whnf); exact ⟨rfl, rfl⟩) ?_); (conv => whnf)))
    refine Exists.intro _ (And.intro (by (conv => whnf); exact ⟨by omega, by omega, rfl, rfl⟩) ?_)
    (conv => whnf); (repeat (refine Exists.intro _ (And.intro (by (conv => whnf); exact ⟨rfl, rfl⟩) ?_); (conv => whnf)))
    refine Exists.intro hn.av (And.intro (by (conv => whnf); rw [hrn]; exact ⟨rfl, rfl⟩) ?_)
    (conv => whnf); (repeat (refine Exists.intro _ (And.intro (by (conv => whnf); exact ⟨rfl, rfl⟩) ?_); (conv => whnf)))
    refine AC.pure (v := .agg [.ints .u8 32 c.tip]) hri (by simp [AV.inns, AV.inn]) (by simp [AV.inn, AV.inns]) ?_
    ((conv => whnf); (repeat (first | ((with_reducible (refine And.intro (show Go.Aw.againsK _ _ _ _ _ from ?_) ?_)); (focus (repeat' (first | ((with_reducible (show Go.Aw.againsK _ _ _ _ _)); (conv => whnf)) | ((with_reducible (show Go.Aw.againK _ _ _ _ _)); (conv => whnf)) | (with_reducible (exact True.intro)) | (with_reducible (refine And.intro ?_ ?_)) | exact rfl | omega))); (conv => whnf)) | ((refine Exists.intro _ (And.intro (by ((conv => whnf); (repeat ((refine And.intro (by exact rfl) ?_); (conv => whnf))))) ?_)); (conv => whnf)))))
    rw [hii]
    (conv => whnf); (repeat (refine Exists.intro _ (And.intro (by (conv => whnf); exact ⟨rfl, rfl⟩) ?_); (conv => whnf)))
    refine AC.frame hhal [0, 1, 2, 3] (by (repeat' (first | exact True.intro | exact rfl | refine And.intro ?_ ?_ | (simp [AV.ren, AV.rens, AObj.ren, Ent.ren, AV.inn, AV.inns, AObj.inn, *]; done)))) (by rfl) (by (repeat' (first | exact True.intro | refine And.intro ?_ ?_ | (simp [AV.ren, AV.rens, AObj.ren, Ent.ren, AV.inn, AV.inns, AObj.inn, *]; done)))) (by rfl) ?_
    rintro r0 hp0 ⟨rfl, rfl⟩
    ((conv => whnf); (repeat (first | ((with_reducible (refine And.intro (show Go.Aw.againsK _ _ _ _ _ from ?_) ?_)); (focus (repeat' (first | ((with_reducible (show Go.Aw.againsK _ _ _ _ _)); (conv => whnf)) | ((with_reducible (show Go.Aw.againK _ _ _ _ _)); (conv => whnf)) | (with_reducible (exact True.intro)) | (with_reducible (refine And.intro ?_ ?_)) | exact rfl | omega | (simp; done)))); (conv => whnf)) | ((refine Exists.intro _ (And.intro (by ((conv => whnf); (repeat ((refine And.intro (by exact rfl) ?_); (conv => whnf))))) ?_)); (conv => whnf)))))
    rw [hgo]
    (conv => whnf); (repeat (refine Exists.intro _ (And.intro (by (conv => whnf); exact ⟨rfl, rfl⟩) ?_); (conv => whnf)))
    rw [hq]
    (conv => whnf); (repeat (refine Exists.intro _ (And.intro (by (conv => whnf); exact ⟨rfl, rfl⟩) ?_); (conv => whnf)))
    refine AC.pure (v := .bool true) haw (by simp [AV.inns]) (by simp [AV.inn]) ?_
    ((conv => whnf); (repeat (first | ((with_reducible (refine And.intro (show Go.Aw.againsK _ _ _ _ _ from ?_) ?_)); (focus (repeat' (first | ((with_reducible (show Go.Aw.againsK _ _ _ _ _)); (conv => whnf)) | ((with_reducible (show Go.Aw.againK _ _ _ _ _)); (conv => whnf)) | (with_reducible (exact True.intro)) | (with_reducible (refine And.intro ?_ ?_)) | exact rfl | omega | (simp; done) | (simp; omega)))); (conv => whnf)) | ((refine Exists.intro _ (And.intro (by ((conv => whnf); (repeat ((refine And.intro (by exact rfl) ?_); (conv => whnf))))) ?_)); (conv => whnf)))))
    (refine Left.of [] (.bool true) [] (by rfl) (by rfl) (by rfl) (by (repeat' (exact True.intro))) (by rfl) (by (repeat' (exact True.intro))) ?_)
    rfl
  | false =>
    (conv => whnf)
    obtain ⟨q1, q2, q3, q4⟩ := hd2 (of_decide_eq_false hfk)
    subst q1
    have hri := refid_ok h hw
    rw [← q4] at hri
    have hii : (c2.tip == c2.tip) = true := by simp
    have hq1 : ((E.length : Int) == IntKind.i64.wrap (IntKind.i64.wrap ((n : Int) - f) + 1)) = true := by
      rw [IntWalk.i64_in ((n : Int) - f) (by omega), IntWalk.i64_in ((n : Int) - f + 1) (by omega), q2]; simp; omega
    have hq2 : ((c2.way.length : Int) - 1 == IntKind.i64.wrap ((f : Int) + 1)) = true := by rw [IntWalk.i64_in ((f : Int) + 1) (by omega), q3]; simp
    have hwr : IntKind.i64.wrap ((n : Int) + 1) = ((n + 1 : Nat) : Int) := by rw [IntWalk.i64_in ((n : Int) + 1) (by omega)]; omega
    refine AW.seq (AW.drawT (.pure 0 (.pure 1 (.pure 2 (.pure 3 (.pure 4 (.pure 5 (.pure 6 (.pure 7 (.pure 8 (.pure 9 (.pure 10 (.pure 11 (.pure 12 (.pure 13 (.pure 14 (.pure 15 (.pure 16 (.pure 17 (.pure 18 (.pure 19 (.pure 20 (.pure 21 (.pure 22 (.pure 23 (.one 24 (.pure 25 (.pure 26 (.pure 27 (.one 28 (.pure 29 (.pure 30 .fin))))))))))))))))))))))))))))))) (keep := fun _ => true) mixed_okC tokT (by kernel_rfl) (by kernel_rfl) ?_)
    (conv => whnf); (repeat (refine Exists.intro _ (And.intro (by (conv => whnf); exact ⟨rfl, rfl⟩) ?_); (conv => whnf)))
    rw [hq1]
    (conv => whnf); (repeat (refine Exists.intro _ (And.intro (by (conv => whnf); exact ⟨rfl, rfl⟩) ?_); (conv => whnf)))
    rw [hq2]
    (conv => whnf); (repeat (refine Exists.intro _ (And.intro (by (conv => whnf); exact ⟨rfl, rfl⟩) ?_); (conv => whnf)))
    refine Exists.intro _ (And.intro (by (conv => whnf); exact ⟨by rw [hwr]; omega, by rw [hwr]; omega, rfl, rfl⟩) ?_)
    (conv => whnf); (repeat (refine Exists.intro _ (And.intro (by (conv => whnf); exact ⟨rfl, rfl⟩) ?_); (conv => whnf)))
    refine Exists.intro h.av (And.intro (by (conv => whnf); rw [hwr, hrq]; exact ⟨rfl, rfl⟩) ?_)
    (conv => whnf); (repeat (refine Exists.intro _ (And.intro (by (conv => whnf); exact ⟨rfl, rfl⟩) ?_); (conv => whnf)))
    refine AC.pure (v := .agg [.ints .u8 32 c2.tip]) hri (by simp [AV.inns, AV.inn]) (by simp [AV.inn, AV.inns]) ?_
    ((conv => whnf); (repeat (((with_reducible (refine And.intro (show Go.Aw.againsK _ _ _ _ _ from ?_) ?_)); (focus (repeat' (first | ((with_reducible (show Go.Aw.againsK _ _ _ _ _)); (conv => whnf)) | ((with_reducible (show Go.Aw.againK _ _ _ _ _)); (conv => whnf)) | (with_reducible (exact True.intro)) | (with_reducible (refine And.intro ?_ ?_)) | exact rfl | omega))); (conv => whnf)))))
    · exact congrArg AV.bool hq2
    · exact congrArg AV.bool hq1
    ((conv => whnf); (repeat (((refine Exists.intro _ (And.intro (by ((conv => whnf); (repeat ((refine And.intro (by exact rfl) ?_); (conv => whnf))))) ?_)); (conv => whnf)))))
    rw [hii]
    (conv => whnf); (repeat (refine Exists.intro _ (And.intro (by (conv => whnf); exact ⟨rfl, rfl⟩) ?_); (conv => whnf)))
    refine AC.pure (v := .bool true) haw (by simp [AV.inns]) (by simp [AV.inn]) ?_
    ((conv => whnf); (repeat (((with_reducible (refine And.intro (show Go.Aw.againsK _ _ _ _ _ from ?_) ?_)); (focus (repeat' (first | ((with_reducible (show Go.Aw.againsK _ _ _ _ _)); (conv => whnf)) | ((with_reducible (show Go.Aw.againK _ _ _ _ _)); (conv => whnf)) | (with_reducible (exact True.intro)) | (with_reducible (refine And.intro ?_ ?_)) | exact rfl | omega | (simp; done)))); (conv => whnf)))))
    · exact congrArg AV.bool hq2
    · exact congrArg AV.bool hq1
    ((conv => whnf); (repeat (((refine Exists.intro _ (And.intro (by ((conv => whnf); (repeat ((refine And.intro (by exact rfl) ?_); (conv => whnf))))) ?_)); (conv => whnf)))))
    refine ev_sound tokT (keep := fun _ => true) ?_
    (conv => whnf)
    (refine Left.of [] (.bool true) [] (by rfl) (by rfl) (by rfl) (by (repeat' (exact True.intro))) (by rfl) (by (repeat' (exact True.intro))) ?_)
    rfl
end Go.Aw
