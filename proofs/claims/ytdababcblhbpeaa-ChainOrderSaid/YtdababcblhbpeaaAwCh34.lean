/-
  AwCh34: ChainOrder: the walk. Own work.
-/
import Derived.Test.YtdababcblhbpeaaAwCh33
import Derived.Test.YtdababcblhbpeaaAwCh35
import Derived.Test.YtdababcblhbpeaaAwCh20
import Derived.Test.YtdababcblhbpeaaM4
set_option linter.unusedVariables false
set_option linter.unusedSimpArgs false
set_option maxRecDepth 20000
set_option maxHeartbeats 4000000
open Go.Proofs
namespace Go.Aw

theorem AnyC.weak {c : Ch} {zs : List Int} {n m N : Nat} {P Q : Nat → Prop} (h : AnyC c zs n m N P) (hq : ∀ j, Q j → P j) : AnyC c zs n m N Q := by
  obtain ⟨h1, h2, h3, h4, h5, A, S, hA⟩ := h
  exact ⟨h1, h2, h3, h4, h5, A, S, fun j hj => hA j (hq j hj)⟩
theorem order_law (n0 : Int) (zs os : List Int) (m q : Nat) (hm : m ≤ zs.length) (hq : q ≤ os.length) :
    AC Try.prog 19 [.int .i64 n0, .sl 0 0 m (some zs.length), .sl 1 0 q (some os.length)] [⟨1, true, none, .ints .i64 zs⟩, ⟨1, true, none, .ints .i64 os⟩] (fun r hp' => r = .bool true) := by
  refine AC.left (AC.body tokT Try.func19 rfl rfl rfl (by decide) (by rfl) ?_)
  have haw := awake_ok
  refine AW.pre tokT (fun _ => true) ?_; (conv => whnf)
  refine AW.cutT (fun fr hp => (1 ≤ n0 ∧ n0 ≤ 20 ∧ m ≤ 15 ∧ q ≤ 60) ∧ fr = [(0, .int .i64 n0), (1, .sl 0 0 m (some zs.length)), (2, .sl 1 0 q (some os.length))] ∧ hp = [⟨1, true, none, .ints .i64 zs⟩, ⟨1, true, none, .ints .i64 os⟩]) ?_ ?_
  · refine AW.cutT (fun fr hp => ∃ b, (b = false → 1 ≤ n0 ∧ n0 ≤ 20 ∧ m ≤ 15 ∧ q ≤ 60) ∧ fr = [(0, .int .i64 n0), (1, .sl 0 0 m (some zs.length)), (2, .sl 1 0 q (some os.length)), (39, .bool b)] ∧ hp = [⟨1, true, none, .ints .i64 zs⟩, ⟨1, true, none, .ints .i64 os⟩]) ?_ ?_
    · refine ev_sound tokT (keep := fun _ => true) ?_
      (conv => whnf); (cases g1 : (decide (n0 < 1) : Bool) <;> (try simp only [beq_iff_eq, beq_eq_false_iff_ne, ne_eq, decide_eq_true_eq, decide_eq_false_iff_not, bne_iff_ne, bne_eq_false_iff_eq, Bool.not_eq_true, Bool.not_eq_false, gt_iff_lt, ge_iff_le] at g1) <;> (try (exfalso; omega)))
      case' true =>
        (conv => whnf)
        (refine Turned.of [0, 1] [(0, .int .i64 n0), (1, .sl 0 0 m (some zs.length)), (2, .sl 1 0 q (some os.length)), (39, .bool true)] [⟨1, true, none, .ints .i64 zs⟩, ⟨1, true, none, .ints .i64 os⟩] (by rfl) (by rfl) (by rfl) (by (repeat' (first | exact True.intro | exact rfl | refine And.intro ?_ ?_ | (simp [AV.ren, AV.rens, AObj.ren, Ent.ren, AV.inn, AV.inns, AObj.inn, *]; done)))) (by (repeat' (first | exact True.intro | exact rfl | refine And.intro ?_ ?_ | (simp [AV.ren, AV.rens, AObj.ren, Ent.ren, AV.inn, AV.inns, AObj.inn, *]; done)))) ?_)
        exact ⟨true, fun h => (by cases h), rfl, rfl⟩
      (conv => whnf); (cases g2 : (decide (n0 > 20) : Bool) <;> (try simp only [beq_iff_eq, beq_eq_false_iff_ne, ne_eq, decide_eq_true_eq, decide_eq_false_iff_not, bne_iff_ne, bne_eq_false_iff_eq, Bool.not_eq_true, Bool.not_eq_false, gt_iff_lt, ge_iff_le] at g2) <;> (try (exfalso; omega)))
      case' true =>
        (conv => whnf)
        (refine Turned.of [0, 1] [(0, .int .i64 n0), (1, .sl 0 0 m (some zs.length)), (2, .sl 1 0 q (some os.length)), (39, .bool true)] [⟨1, true, none, .ints .i64 zs⟩, ⟨1, true, none, .ints .i64 os⟩] (by rfl) (by rfl) (by rfl) (by (repeat' (first | exact True.intro | exact rfl | refine And.intro ?_ ?_ | (simp [AV.ren, AV.rens, AObj.ren, Ent.ren, AV.inn, AV.inns, AObj.inn, *]; done)))) (by (repeat' (first | exact True.intro | exact rfl | refine And.intro ?_ ?_ | (simp [AV.ren, AV.rens, AObj.ren, Ent.ren, AV.inn, AV.inns, AObj.inn, *]; done)))) ?_)
        exact ⟨true, fun h => (by cases h), rfl, rfl⟩
      (conv => whnf); (cases g3 : (decide ((↑m : Int) > 15) : Bool) <;> (try simp only [beq_iff_eq, beq_eq_false_iff_ne, ne_eq, decide_eq_true_eq, decide_eq_false_iff_not, bne_iff_ne, bne_eq_false_iff_eq, Bool.not_eq_true, Bool.not_eq_false, gt_iff_lt, ge_iff_le] at g3) <;> (try (exfalso; omega)))
      case' true =>
        (conv => whnf)
        (refine Turned.of [0, 1] [(0, .int .i64 n0), (1, .sl 0 0 m (some zs.length)), (2, .sl 1 0 q (some os.length)), (39, .bool true)] [⟨1, true, none, .ints .i64 zs⟩, ⟨1, true, none, .ints .i64 os⟩] (by rfl) (by rfl) (by rfl) (by (repeat' (first | exact True.intro | exact rfl | refine And.intro ?_ ?_ | (simp [AV.ren, AV.rens, AObj.ren, Ent.ren, AV.inn, AV.inns, AObj.inn, *]; done)))) (by (repeat' (first | exact True.intro | exact rfl | refine And.intro ?_ ?_ | (simp [AV.ren, AV.rens, AObj.ren, Ent.ren, AV.inn, AV.inns, AObj.inn, *]; done)))) ?_)
        exact ⟨true, fun h => (by cases h), rfl, rfl⟩
      (conv => whnf)
      (refine Turned.of [0, 1] [(0, .int .i64 n0), (1, .sl 0 0 m (some zs.length)), (2, .sl 1 0 q (some os.length)), (39, .bool (decide ((q : Int) > 60)))] [⟨1, true, none, .ints .i64 zs⟩, ⟨1, true, none, .ints .i64 os⟩] (by rfl) (by rfl) (by rfl) (by (repeat' (first | exact True.intro | exact rfl | refine And.intro ?_ ?_ | (simp [AV.ren, AV.rens, AObj.ren, Ent.ren, AV.inn, AV.inns, AObj.inn, *]; done)))) (by (repeat' (first | exact True.intro | exact rfl | refine And.intro ?_ ?_ | (simp [AV.ren, AV.rens, AObj.ren, Ent.ren, AV.inn, AV.inns, AObj.inn, *]; done)))) ?_)
      exact ⟨_, fun h => ⟨by omega, by omega, by omega, by have := of_decide_eq_false h; omega⟩, rfl, rfl⟩
    rintro fr hp ⟨b, hb, rfl, rfl⟩
    refine AW.condK ?_
    (conv => whnf)
    cases b with
    | true =>
      (conv => whnf)
      refine AW.pre tokT (fun _ => true) ?_; (conv => whnf)
      refine AC.pure (v := .bool true) haw (by simp [AV.inns]) (by simp [AV.inn]) ?_
      (conv => whnf)
      refine ev_sound tokT (keep := fun _ => true) ?_
      (conv => whnf)
      (refine Left.of [0, 1] (.bool true) [⟨1, true, none, .ints .i64 zs⟩, ⟨1, true, none, .ints .i64 os⟩] (by rfl) (by rfl) (by rfl) (by (repeat' (first | exact True.intro | exact rfl | refine And.intro ?_ ?_))) (by rfl) (by (repeat' (first | exact True.intro | exact rfl | refine And.intro ?_ ?_))) ?_)
      rfl
    | false =>
      refine ev_sound tokT (keep := fun _ => true) ?_
      (conv => whnf)
      (refine Turned.of [0, 1] [(0, .int .i64 n0), (1, .sl 0 0 m (some zs.length)), (2, .sl 1 0 q (some os.length))] [⟨1, true, none, .ints .i64 zs⟩, ⟨1, true, none, .ints .i64 os⟩] (by rfl) (by rfl) (by rfl) (by (repeat' (first | exact True.intro | exact rfl | refine And.intro ?_ ?_ | (simp [AV.ren, AV.rens, AObj.ren, Ent.ren, AV.inn, AV.inns, AObj.inn, *]; done)))) (by (repeat' (first | exact True.intro | exact rfl | refine And.intro ?_ ?_ | (simp [AV.ren, AV.rens, AObj.ren, Ent.ren, AV.inn, AV.inns, AObj.inn, *]; done)))) ?_)
      exact ⟨hb rfl, rfl, rfl⟩
  rintro fr hp ⟨⟨hn1, hn2, hm15, hq60⟩, rfl, rfl⟩
  obtain ⟨n, rfl⟩ := Int.eq_ofNat_of_zero_le (show 0 ≤ n0 by omega)
  have hn : 1 ≤ n ∧ n ≤ 20 := by omega
  refine AW.pre tokT (fun _ => true) ?_; (conv => whnf)
  refine AW.nils [7] 2 (.row []) _ _ rfl rfl rfl ?_
  refine AW.cutT (fun fr hp => fr = [(0, .int .i64 (n : Int)), (1, .sl 0 0 m (some zs.length)), (2, .sl 1 0 q (some os.length)), (7, .sl 2 0 n none)] ∧ hp = [⟨1, true, none, .ints .i64 zs⟩, ⟨1, true, none, .ints .i64 os⟩, ⟨2, false, none, .row (rowMd (mline 1048576 n))⟩]) ?_ ?_
  · refine AW.pre tokT (fun _ => true) ?_; (conv => whnf)
    (refine AW.turnL [0, 1, 2] [(0, .int .i64 (n : Int)), (1, .sl 0 0 m (some zs.length)), (2, .sl 1 0 q (some os.length)), (7, .sl 2 0 0 none), (8, .int .i64 0)] [⟨1, true, none, .ints .i64 zs⟩, ⟨1, true, none, .ints .i64 os⟩, ⟨2, false, none, .row (rowMd (mline 1048576 0))⟩] (by rfl) (by rfl) (by rfl) (by (repeat' (first | exact True.intro | exact rfl | refine And.intro ?_ ?_ | (simp [AV.ren, AV.rens, AObj.ren, Ent.ren, AV.inn, AV.inns, AObj.inn, *]; done)))) (by (repeat' (first | exact True.intro | exact rfl | refine And.intro ?_ ?_ | (simp [AV.ren, AV.rens, AObj.ren, Ent.ren, AV.inn, AV.inns, AObj.inn, *]; done)))) ?_)
    refine AW.block ?_
    refine AW.loop (fun u fr hp => ∃ i : Nat, u = n - i ∧ i ≤ n ∧ fr = [(0, .int .i64 (n : Int)), (1, .sl 0 0 m (some zs.length)), (2, .sl 1 0 q (some os.length)), (7, .sl 2 0 i none), (8, .int .i64 (i : Int))] ∧ hp = [⟨1, true, none, .ints .i64 zs⟩, ⟨1, true, none, .ints .i64 os⟩, ⟨2, false, none, .row (rowMd (mline 1048576 i))⟩]) n ?_ ?_
    · exact ⟨0, by omega, by omega, rfl, rfl⟩
    · rintro u fr hp ⟨i, rfl, hi, rfl, rfl⟩ -
      refine AW.post ?_
      refine AW.pre tokT (fun _ => true) ?_; (conv => whnf)
      by_cases hil : i < n
      case neg =>
        rw [decide_eq_false (show ¬ (i : Int) < (n : Int) by omega)]
        (conv => whnf)
        have hie : n = i := by omega
        subst hie
        (refine Turned.of [0, 1, 2] [(0, .int .i64 (n : Int)), (1, .sl 0 0 m (some zs.length)), (2, .sl 1 0 q (some os.length)), (7, .sl 2 0 n none)] [⟨1, true, none, .ints .i64 zs⟩, ⟨1, true, none, .ints .i64 os⟩, ⟨2, false, none, .row (rowMd (mline 1048576 n))⟩] (by rfl) (by rfl) (by rfl) (by (repeat' (first | exact True.intro | exact rfl | refine And.intro ?_ ?_ | (simp [AV.ren, AV.rens, AObj.ren, Ent.ren, AV.inn, AV.inns, AObj.inn, *]; done)))) (by (repeat' (first | exact True.intro | exact rfl | refine And.intro ?_ ?_ | (simp [AV.ren, AV.rens, AObj.ren, Ent.ren, AV.inn, AV.inns, AObj.inn, *]; done)))) ?_)
        exact ⟨rfl, rfl⟩
      rw [decide_eq_true (show (i : Int) < (n : Int) by omega)]
      (conv => whnf)
      refine AW.seq ?_
      refine AW.block ?_
      have hsn := rowMd_snoc (mline 1048576 i) i ⟨(i : Int), 1048576⟩ (mline_len 1048576 i).symm
      rw [← mline_succ] at hsn
      simp only [] at hsn
      refine ev_sound tokT (keep := fun _ => true) ?_
      ((conv => whnf); (repeat (((refine And.intro (by first | (simp; done) | (simp [roomMost]; omega)) ?_); (conv => whnf)))))
      rw [hsn]
      refine ev_sound tokT (keep := fun _ => true) ?_
      (conv => whnf)
      rw [IntWalk.i64_in ((i : Int) + 1) (by omega)]
      (refine Turned.of [0, 1, 4] [(0, .int .i64 (n : Int)), (1, .sl 0 0 m (some zs.length)), (2, .sl 1 0 q (some os.length)), (7, .sl 2 0 (i + 1) none), (8, .int .i64 ((i + 1 : Nat) : Int))] [⟨1, true, none, .ints .i64 zs⟩, ⟨1, true, none, .ints .i64 os⟩, ⟨2, false, none, .row (rowMd (mline 1048576 (i + 1)))⟩] (by rfl) (by rfl) (by rfl) (by (repeat' (first | exact True.intro | exact rfl | refine And.intro ?_ ?_ | (simp [AV.ren, AV.rens, AObj.ren, Ent.ren, AV.inn, AV.inns, AObj.inn, *]; done)))) (by (repeat' (first | exact True.intro | exact rfl | refine And.intro ?_ ?_ | (simp [AV.ren, AV.rens, AObj.ren, Ent.ren, AV.inn, AV.inns, AObj.inn, *]; done)))) ?_)
      exact ⟨n - (i + 1), by omega, i + 1, rfl, by omega, rfl, rfl⟩
  rintro fr hp ⟨rfl, rfl⟩
  refine AW.cutT (fun fr hp => fr = [(0, .int .i64 (n : Int)), (1, .sl 0 0 m (some zs.length)), (2, .sl 1 0 q (some os.length)), (7, .sl 2 0 (n + m) none)] ∧ hp = [⟨1, true, none, .ints .i64 zs⟩, ⟨1, true, none, .ints .i64 os⟩, ⟨2, false, none, .row (rowMd (ordM zs n m))⟩]) ?_ ?_
  · refine AW.pre tokT (fun _ => true) ?_; (conv => whnf)
    have hz : mline 1048576 n = ordM zs n 0 := by simp [ordM, fmds]
    rw [hz]
    (refine AW.turnL [0, 1, 2] [(0, .int .i64 (n : Int)), (1, .sl 0 0 m (some zs.length)), (2, .sl 1 0 q (some os.length)), (7, .sl 2 0 (n + 0) none), (9, .int .i64 0)] [⟨1, true, none, .ints .i64 zs⟩, ⟨1, true, none, .ints .i64 os⟩, ⟨2, false, none, .row (rowMd (ordM zs n 0))⟩] (by rfl) (by rfl) (by rfl) (by (repeat' (first | exact True.intro | exact rfl | refine And.intro ?_ ?_ | (simp [AV.ren, AV.rens, AObj.ren, Ent.ren, AV.inn, AV.inns, AObj.inn, *]; done)))) (by (repeat' (first | exact True.intro | exact rfl | refine And.intro ?_ ?_ | (simp [AV.ren, AV.rens, AObj.ren, Ent.ren, AV.inn, AV.inns, AObj.inn, *]; done)))) ?_)
    refine AW.block ?_
    refine AW.loop (fun u fr hp => ∃ i : Nat, u = m - i ∧ i ≤ m ∧ fr = [(0, .int .i64 (n : Int)), (1, .sl 0 0 m (some zs.length)), (2, .sl 1 0 q (some os.length)), (7, .sl 2 0 (n + i) none), (9, .int .i64 (i : Int))] ∧ hp = [⟨1, true, none, .ints .i64 zs⟩, ⟨1, true, none, .ints .i64 os⟩, ⟨2, false, none, .row (rowMd (ordM zs n i))⟩]) m ?_ ?_
    · exact ⟨0, by omega, by omega, rfl, rfl⟩
    · rintro u fr hp ⟨i, rfl, hi, rfl, rfl⟩ -
      refine AW.post ?_
      refine AW.pre tokT (fun _ => true) ?_; (conv => whnf)
      by_cases hil : i < m
      case neg =>
        rw [decide_eq_false (show ¬ (i : Int) < (m : Int) by omega)]
        (conv => whnf)
        have hie : m = i := by omega
        subst hie
        (refine Turned.of [0, 1, 2] [(0, .int .i64 (n : Int)), (1, .sl 0 0 m (some zs.length)), (2, .sl 1 0 q (some os.length)), (7, .sl 2 0 (n + m) none)] [⟨1, true, none, .ints .i64 zs⟩, ⟨1, true, none, .ints .i64 os⟩, ⟨2, false, none, .row (rowMd (ordM zs n m))⟩] (by rfl) (by rfl) (by rfl) (by (repeat' (first | exact True.intro | exact rfl | refine And.intro ?_ ?_ | (simp [AV.ren, AV.rens, AObj.ren, Ent.ren, AV.inn, AV.inns, AObj.inn, *]; done)))) (by (repeat' (first | exact True.intro | exact rfl | refine And.intro ?_ ?_ | (simp [AV.ren, AV.rens, AObj.ren, Ent.ren, AV.inn, AV.inns, AObj.inn, *]; done)))) ?_)
        exact ⟨rfl, rfl⟩
      rw [decide_eq_true (show (i : Int) < (m : Int) by omega)]
      (conv => whnf)
      refine AW.seq ?_
      refine AW.block ?_
      have hol : n + i = (ordM zs n i).length := (ordM_len zs n i).symm
      have hsn := rowMd_snoc (ordM zs n i) (n + i) ⟨zs.getD i 0 % (n : Int), ((1 + i : Nat) : Int)⟩ hol
      rw [show ordM zs n i ++ [⟨zs.getD i 0 % (n : Int), ((1 + i : Nat) : Int)⟩] = ordM zs n (i + 1) by unfold ordM; rw [List.append_assoc, ← fmds_succ]] at hsn
      simp only [] at hsn
      have hzi : zs.getD (0 + (i : Int).toNat) 0 = zs.getD i 0 := by rw [Nat.zero_add, Int.toNat_natCast]
      obtain ⟨z, hz⟩ : ∃ z, zs.getD i 0 = z := ⟨_, rfl⟩
      rw [hz] at hsn hzi
      have hro := round_ok z (n : Int) (by omega) (by omega)
      obtain ⟨y, hy⟩ : ∃ y, z % (n : Int) = y := ⟨_, rfl⟩
      rw [hy] at hsn hro
      have hol2 : n + i ≤ (rowMd (ordM zs n i)).length := by simp [← hol]
      refine ev_sound tokT (keep := fun _ => true) ?_
      ((conv => whnf); (repeat (((refine And.intro (by omega) ?_); (conv => whnf)))))
      rw [hzi]
      refine AC.pure (v := .int .i64 y) hro (by simp [AV.inns, AV.inn]) (by simp [AV.inn]) ?_
      ((conv => whnf); (repeat (((refine And.intro (by first | omega | (simp; done) | (simp [roomMost]; omega)) ?_); (conv => whnf)))))
      rw [IntWalk.i64_in (1 + (i : Int)) (by omega), show 1 + (i : Int) = ((1 + i : Nat) : Int) by omega, hsn]
      refine ev_sound tokT (keep := fun _ => true) ?_
      (conv => whnf)
      rw [IntWalk.i64_in ((i : Int) + 1) (by omega)]
      (refine Turned.of [0, 1, 4] [(0, .int .i64 (n : Int)), (1, .sl 0 0 m (some zs.length)), (2, .sl 1 0 q (some os.length)), (7, .sl 2 0 (n + (i + 1)) none), (9, .int .i64 ((i + 1 : Nat) : Int))] [⟨1, true, none, .ints .i64 zs⟩, ⟨1, true, none, .ints .i64 os⟩, ⟨2, false, none, .row (rowMd (ordM zs n (i + 1)))⟩] (by rfl) (by rfl) (by rfl) (by (repeat' (first | exact True.intro | exact rfl | refine And.intro ?_ ?_ | (simp [AV.ren, AV.rens, AObj.ren, Ent.ren, AV.inn, AV.inns, AObj.inn, *]; done)))) (by (repeat' (first | exact True.intro | exact rfl | refine And.intro ?_ ?_ | (simp [AV.ren, AV.rens, AObj.ren, Ent.ren, AV.inn, AV.inns, AObj.inn, *]; done)))) ?_)
      exact ⟨m - (i + 1), by omega, i + 1, rfl, by omega, rfl, rfl⟩
  rintro fr hp ⟨rfl, rfl⟩
  have hcast := cast_ok (ordM zs n m) none (by rw [ordM_len]; omega)
  rw [ordM_len] at hcast
  have hLl := ord_len zs n m
  have hL0 := (castA_props (ordM zs n m)).2.2
  have F := ord_forest (zs := zs) hn hm15
  have hsq0 := seq_new (zs := zs) hn hm15
  have hay0 := any_new (zs := zs) hn hm15
  have hsqA := fun (i : Nat) (c : Ch) (h : SeqC c zs n m i) hi => seq_add (zs := zs) hn hm15 h hi
  have hsqE := fun (c : Ch) (h : SeqC c zs n m (n + m)) => seq_end (zs := zs) hn hm15 h
  have hayA := fun (j N : Nat) (c : Ch) (P : Nat → Prop) (h : AnyC c zs n m N P) hN hj hjl => any_add (zs := zs) (j := j) hn hm15 h hN hj hjl
  have hayE := fun (N : Nat) (c : Ch) (P : Nat → Prop) (h : AnyC c zs n m N P) hP => any_end (zs := zs) hn hm15 h hP
  have hmn := (ord_main (zs := zs) (n := n) (m := m) hn (Nat.le_refl n)).1
  obtain ⟨L, hL⟩ : ∃ L, castA (ordM zs n m) = L := ⟨_, rfl⟩
  rw [hL] at hcast hLl hL0 F hmn
  rw [hL] at hsqA hayA hayE
  have hLw := F.wf
  have hrL0 : (rowHd L)[0 + Int.toNat 0]? = some gen0.segs := by simp [rowHd, hL0]
  have hnb : newB gen0 100 100 = true := by
    unfold newB
    rw [show mayB gen0 = true by unfold mayB; decide, Bool.true_and]
    exact decide_eq_true (by decide)
  have hnew := new_ok gen0 100 100 gen0_wf hnb
  obtain ⟨c0, hc0⟩ : ∃ c0, newC gen0 100 100 = c0 := ⟨_, rfl⟩
  rw [hc0] at hnew hsq0 hay0
  have hmi2 : n + m + 1 = n + 1 + m := by omega
  refine AW.cutT (fun fr hp => fr = [(0, .int .i64 (n : Int)), (1, .sl 0 0 m (some zs.length)), (2, .sl 1 0 q (some os.length)), (10, .sl 2 0 (n + m + 1) none)] ∧ hp = [⟨1, true, none, .ints .i64 zs⟩, ⟨1, true, none, .ints .i64 os⟩, ⟨66, false, none, .row (rowHd L)⟩]) ?_ ?_
  · refine ev_sound tokT (keep := fun _ => true) ?_
    (conv => whnf)
    refine AC.frame hcast [2] (by (repeat' (first | exact True.intro | exact rfl | refine And.intro ?_ ?_ | (simp [AV.ren, AV.rens, AObj.ren, Ent.ren, AV.inn, AV.inns, AObj.inn, *]; done)))) (by rfl) (by (repeat' (first | exact True.intro | refine And.intro ?_ ?_ | (simp [AV.ren, AV.rens, AObj.ren, Ent.ren, AV.inn, AV.inns, AObj.inn, *]; done)))) (by rfl) ?_
    rintro r0 hp0 ⟨rfl, rfl⟩
    (conv => whnf)
    (refine Turned.of [0, 1, 3] [(0, .int .i64 (n : Int)), (1, .sl 0 0 m (some zs.length)), (2, .sl 1 0 q (some os.length)), (10, .sl 2 0 (n + m + 1) none)] [⟨1, true, none, .ints .i64 zs⟩, ⟨1, true, none, .ints .i64 os⟩, ⟨66, false, none, .row (rowHd L)⟩] (by rfl) (by rfl) (by rfl) (by (repeat' (first | exact True.intro | exact rfl | refine And.intro ?_ ?_ | (simp [AV.ren, AV.rens, AObj.ren, Ent.ren, AV.inn, AV.inns, AObj.inn, *]; done)))) (by (repeat' (first | exact True.intro | exact rfl | refine And.intro ?_ ?_ | (simp [AV.ren, AV.rens, AObj.ren, Ent.ren, AV.inn, AV.inns, AObj.inn, *]; done)))) ?_)
    exact ⟨rfl, rfl⟩
  rintro fr hp ⟨rfl, rfl⟩
  refine AW.cutT (fun fr hp => fr = [(0, .int .i64 (n : Int)), (1, .sl 0 0 m (some zs.length)), (2, .sl 1 0 q (some os.length)), (10, .sl 6 0 (n + m + 1) none), (11, .ptr 2 0 0 0), (12, .int .i64 0)] ∧ hp = [⟨1, true, none, .ints .i64 zs⟩, ⟨1, true, none, .ints .i64 os⟩, c0.varE false 3 4 5, c0.mapE false, c0.wayE false, c0.orpE false, ⟨66, false, none, .row (rowHd L)⟩]) ?_ ?_
  · unfold Ch.varE Ch.mapE Ch.wayE Ch.orpE
    refine ev_sound tokT (keep := fun _ => true) ?_
    ((conv => whnf); (repeat (((refine And.intro (by omega) ?_); (conv => whnf)))))
    rw [hrL0]
    (conv => whnf)
    refine AC.frame hnew [] (by (repeat' (exact True.intro))) (by rfl) (by (repeat' (first | exact True.intro | refine And.intro ?_ ?_))) (by rfl) ?_
    rintro r0 hp0 ⟨rfl, rfl⟩
    (conv => whnf)
    (refine Turned.of [0, 1, 3, 4, 5, 6, 2] [(0, .int .i64 (n : Int)), (1, .sl 0 0 m (some zs.length)), (2, .sl 1 0 q (some os.length)), (10, .sl 6 0 (n + m + 1) none), (11, .ptr 2 0 0 0), (12, .int .i64 0)] [⟨1, true, none, .ints .i64 zs⟩, ⟨1, true, none, .ints .i64 os⟩, c0.varE false 3 4 5, c0.mapE false, c0.wayE false, c0.orpE false, ⟨66, false, none, .row (rowHd L)⟩] (by rfl) (by rfl) (by rfl) (by (repeat' (first | exact True.intro | exact rfl | refine And.intro ?_ ?_ | (simp [AV.ren, AV.rens, AObj.ren, Ent.ren, AV.inn, AV.inns, AObj.inn, *]; done)))) (by (repeat' (first | exact True.intro | exact rfl | refine And.intro ?_ ?_ | (simp [AV.ren, AV.rens, AObj.ren, Ent.ren, AV.inn, AV.inns, AObj.inn, *]; done)))) ?_)
    exact ⟨rfl, rfl⟩
  rintro fr hp ⟨rfl, rfl⟩
  refine AW.cutT (fun fr hp => fr = [(0, .int .i64 (n : Int)), (1, .sl 0 0 m (some zs.length)), (2, .sl 1 0 q (some os.length)), (10, .sl 10 0 (n + m + 1) none), (11, .ptr 2 0 0 0), (12, .int .i64 0), (13, .ptr 6 0 0 0), (14, .int .i64 0)] ∧ hp = [⟨1, true, none, .ints .i64 zs⟩, ⟨1, true, none, .ints .i64 os⟩, c0.varE false 3 4 5, c0.mapE false, c0.wayE false, c0.orpE false, c0.varE false 7 8 9, c0.mapE false, c0.wayE false, c0.orpE false, ⟨66, false, none, .row (rowHd L)⟩]) ?_ ?_
  · unfold Ch.varE Ch.mapE Ch.wayE Ch.orpE
    refine ev_sound tokT (keep := fun _ => true) ?_
    ((conv => whnf); (repeat (((refine And.intro (by omega) ?_); (conv => whnf)))))
    rw [hrL0]
    (conv => whnf)
    refine AC.frame hnew [] (by (repeat' (exact True.intro))) (by rfl) (by (repeat' (first | exact True.intro | refine And.intro ?_ ?_))) (by rfl) ?_
    rintro r0 hp0 ⟨rfl, rfl⟩
    (conv => whnf)
    (refine Turned.of [0, 1, 2, 3, 4, 5, 7, 8, 9, 10, 6] [(0, .int .i64 (n : Int)), (1, .sl 0 0 m (some zs.length)), (2, .sl 1 0 q (some os.length)), (10, .sl 10 0 (n + m + 1) none), (11, .ptr 2 0 0 0), (12, .int .i64 0), (13, .ptr 6 0 0 0), (14, .int .i64 0)] [⟨1, true, none, .ints .i64 zs⟩, ⟨1, true, none, .ints .i64 os⟩, c0.varE false 3 4 5, c0.mapE false, c0.wayE false, c0.orpE false, c0.varE false 7 8 9, c0.mapE false, c0.wayE false, c0.orpE false, ⟨66, false, none, .row (rowHd L)⟩] (by rfl) (by rfl) (by rfl) (by (repeat' (first | exact True.intro | exact rfl | refine And.intro ?_ ?_ | (simp [AV.ren, AV.rens, AObj.ren, Ent.ren, AV.inn, AV.inns, AObj.inn, *]; done)))) (by (repeat' (first | exact True.intro | exact rfl | refine And.intro ?_ ?_ | (simp [AV.ren, AV.rens, AObj.ren, Ent.ren, AV.inn, AV.inns, AObj.inn, *]; done)))) ?_)
    exact ⟨rfl, rfl⟩
  rintro fr hp ⟨rfl, rfl⟩
  refine AW.cutT (fun fr hp => fr = [(0, .int .i64 (n : Int)), (1, .sl 0 0 m (some zs.length)), (2, .sl 1 0 q (some os.length)), (10, .sl 10 0 (n + m + 1) none), (11, .ptr 2 0 0 0), (13, .ptr 6 0 0 0)] ∧ hp = [⟨1, true, none, .ints .i64 zs⟩, ⟨1, true, none, .ints .i64 os⟩, c0.varE false 3 4 5, c0.mapE false, c0.wayE false, c0.orpE false, c0.varE false 7 8 9, c0.mapE false, c0.wayE false, c0.orpE false, ⟨66, false, none, .row (rowHd L)⟩]) ?_ ?_
  · unfold Ch.varE Ch.mapE Ch.wayE Ch.orpE
    refine ev_sound tokT (keep := fun _ => true) ?_
    (conv => whnf)
    (refine Turned.of [0, 1, 2, 3, 4, 5, 6, 7, 8, 9, 10] [(0, .int .i64 (n : Int)), (1, .sl 0 0 m (some zs.length)), (2, .sl 1 0 q (some os.length)), (10, .sl 10 0 (n + m + 1) none), (11, .ptr 2 0 0 0), (13, .ptr 6 0 0 0)] [⟨1, true, none, .ints .i64 zs⟩, ⟨1, true, none, .ints .i64 os⟩, c0.varE false 3 4 5, c0.mapE false, c0.wayE false, c0.orpE false, c0.varE false 7 8 9, c0.mapE false, c0.wayE false, c0.orpE false, ⟨66, false, none, .row (rowHd L)⟩] (by rfl) (by rfl) (by rfl) (by (repeat' (first | exact True.intro | exact rfl | refine And.intro ?_ ?_ | (simp [AV.ren, AV.rens, AObj.ren, Ent.ren, AV.inn, AV.inns, AObj.inn, *]; done)))) (by (repeat' (first | exact True.intro | exact rfl | refine And.intro ?_ ?_ | (simp [AV.ren, AV.rens, AObj.ren, Ent.ren, AV.inn, AV.inns, AObj.inn, *]; done)))) ?_)
    exact ⟨rfl, rfl⟩
  rintro fr hp ⟨rfl, rfl⟩
  refine AW.cutT (fun fr hp => ∃ a, SeqC a zs n m (n + m) ∧ fr = [(0, .int .i64 (n : Int)), (1, .sl 0 0 m (some zs.length)), (2, .sl 1 0 q (some os.length)), (10, .sl 10 0 (n + m + 1) none), (11, .ptr 2 0 0 0), (13, .ptr 6 0 0 0)] ∧ hp = [⟨1, true, none, .ints .i64 zs⟩, ⟨1, true, none, .ints .i64 os⟩, a.varE false 3 4 5, a.mapE false, a.wayE false, a.orpE false, c0.varE false 7 8 9, c0.mapE false, c0.wayE false, c0.orpE false, ⟨66, false, none, .row (rowHd L)⟩]) ?_ ?_
  · unfold Ch.varE Ch.mapE Ch.wayE Ch.orpE
    refine AW.pre tokT (fun _ => true) ?_; (conv => whnf)
    refine AW.block ?_
    (refine AW.turnL [0, 1, 2, 3, 4, 5, 6, 7, 8, 9, 10] [(0, .int .i64 (n : Int)), (1, .sl 0 0 m (some zs.length)), (2, .sl 1 0 q (some os.length)), (10, .sl 10 0 (n + m + 1) none), (11, .ptr 2 0 0 0), (13, .ptr 6 0 0 0), (15, .int .i64 ((0 + 1 : Nat) : Int))] [⟨1, true, none, .ints .i64 zs⟩, ⟨1, true, none, .ints .i64 os⟩, c0.varE false 3 4 5, c0.mapE false, c0.wayE false, c0.orpE false, c0.varE false 7 8 9, c0.mapE false, c0.wayE false, c0.orpE false, ⟨66, false, none, .row (rowHd L)⟩] (by rfl) (by rfl) (by rfl) (by (repeat' (first | exact True.intro | exact rfl | refine And.intro ?_ ?_ | (simp [AV.ren, AV.rens, AObj.ren, Ent.ren, AV.inn, AV.inns, AObj.inn, *]; done)))) (by (repeat' (first | exact True.intro | exact rfl | refine And.intro ?_ ?_ | (simp [AV.ren, AV.rens, AObj.ren, Ent.ren, AV.inn, AV.inns, AObj.inn, *]; done)))) ?_)
    refine AW.loop (fun u fr hp => ∃ (i : Nat) (a : Ch), u = n + m - i ∧ i ≤ n + m ∧ SeqC a zs n m i ∧ fr = [(0, .int .i64 (n : Int)), (1, .sl 0 0 m (some zs.length)), (2, .sl 1 0 q (some os.length)), (10, .sl 10 0 (n + m + 1) none), (11, .ptr 2 0 0 0), (13, .ptr 6 0 0 0), (15, .int .i64 ((i + 1 : Nat) : Int))] ∧ hp = [⟨1, true, none, .ints .i64 zs⟩, ⟨1, true, none, .ints .i64 os⟩, a.varE false 3 4 5, a.mapE false, a.wayE false, a.orpE false, c0.varE false 7 8 9, c0.mapE false, c0.wayE false, c0.orpE false, ⟨66, false, none, .row (rowHd L)⟩]) (n + m) ?_ ?_
    · exact ⟨0, c0, by omega, by omega, hsq0, rfl, rfl⟩
    · rintro u fr hp ⟨i, a, rfl, hi, hsq, rfl, rfl⟩ -
      refine AW.post ?_
      unfold Ch.varE Ch.mapE Ch.wayE Ch.orpE
      refine AW.pre tokT (fun _ => true) ?_; (conv => whnf)
      by_cases hil : i < n + m
      case neg =>
        rw [decide_eq_false (show ¬ ((i + 1 : Nat) : Int) < ((n + m + 1 : Nat) : Int) by omega)]
        (conv => whnf)
        have hie : i = n + m := by omega
        rw [hie] at hsq
        (refine Turned.of [0, 1, 2, 3, 4, 5, 6, 7, 8, 9, 10] [(0, .int .i64 (n : Int)), (1, .sl 0 0 m (some zs.length)), (2, .sl 1 0 q (some os.length)), (10, .sl 10 0 (n + m + 1) none), (11, .ptr 2 0 0 0), (13, .ptr 6 0 0 0)] [⟨1, true, none, .ints .i64 zs⟩, ⟨1, true, none, .ints .i64 os⟩, a.varE false 3 4 5, a.mapE false, a.wayE false, a.orpE false, c0.varE false 7 8 9, c0.mapE false, c0.wayE false, c0.orpE false, ⟨66, false, none, .row (rowHd L)⟩] (by rfl) (by rfl) (by rfl) (by (repeat' (first | exact True.intro | exact rfl | refine And.intro ?_ ?_ | (simp [AV.ren, AV.rens, AObj.ren, Ent.ren, AV.inn, AV.inns, AObj.inn, *]; done)))) (by (repeat' (first | exact True.intro | exact rfl | refine And.intro ?_ ?_ | (simp [AV.ren, AV.rens, AObj.ren, Ent.ren, AV.inn, AV.inns, AObj.inn, *]; done)))) ?_)
        exact ⟨a, hsq, rfl, rfl⟩
      rw [decide_eq_true (show ((i + 1 : Nat) : Int) < ((n + m + 1 : Nat) : Int) by omega)]
      (conv => whnf)
      refine AW.seq ?_
      refine AW.block ?_
      obtain ⟨h, hh⟩ : ∃ h, L.getD (i + 1) default = h := ⟨_, rfl⟩
      have hrq : (rowHd L)[0 + (((i + 1) : Nat) : Int).toNat]? = some h.segs := by rw [Nat.zero_add, Int.toNat_natCast, ← hh]; exact hd_at L _ (by omega)
      have hhd : hdL L (i + 1) = h := hh
      have hw : h.wf := by rw [← hhd]; exact hLw _ (by omega)
      have hadd := add_ok a hsq.kok hsq.tree (by have := hsq.kok.sum; omega) h hw
      obtain ⟨he0, hsq2⟩ := hsqA i a hsq (by omega)
      rw [hhd] at he0 hsq2
      obtain ⟨a2, ha2⟩ : ∃ c2, (addC a h).1 = c2 := ⟨_, rfl⟩
      obtain ⟨E, hE⟩ : ∃ E, (addC a h).2.1 = E := ⟨_, rfl⟩
      rw [ha2, hE, he0] at hadd
      rw [ha2] at hsq2
      unfold Ch.varE Ch.mapE Ch.wayE Ch.orpE at hadd
      refine AW.cutT (fun fr hp => fr = [(0, .int .i64 (n : Int)), (1, .sl 0 0 m (some zs.length)), (2, .sl 1 0 q (some os.length)), (10, .sl 10 0 (n + m + 1) none), (11, .ptr 2 0 0 0), (13, .ptr 6 0 0 0), (15, .int .i64 ((i + 1 : Nat) : Int)), (17, .int .i64 0)] ∧ hp = [⟨1, true, none, .ints .i64 zs⟩, ⟨1, true, none, .ints .i64 os⟩, a2.varE false 3 4 5, a2.mapE false, a2.wayE false, a2.orpE false, c0.varE false 7 8 9, c0.mapE false, c0.wayE false, c0.orpE false, ⟨66, false, none, .row (rowHd L)⟩]) ?_ ?_
      · unfold Ch.varE Ch.mapE Ch.wayE Ch.orpE
        refine ev_sound tokT (keep := fun _ => true) ?_
        ((conv => whnf); (repeat (((refine And.intro (by omega) ?_); (conv => whnf)))))
        rw [hrq]
        (conv => whnf)
        refine AC.frame hadd [2, 3, 4, 5] (by (repeat' (first | exact True.intro | exact rfl | refine And.intro ?_ ?_ | (simp [AV.ren, AV.rens, AObj.ren, Ent.ren, AV.inn, AV.inns, AObj.inn, *]; done)))) (by rfl) (by (repeat' (first | exact True.intro | refine And.intro ?_ ?_ | (simp [AV.ren, AV.rens, AObj.ren, Ent.ren, AV.inn, AV.inns, AObj.inn, *]; done)))) (by rfl) ?_
        rintro r0 hp0 ⟨rfl, rfl⟩
        (conv => whnf)
        (refine Turned.of [0, 1, 2, 3, 11, 12, 6, 7, 8, 9, 10] [(0, .int .i64 (n : Int)), (1, .sl 0 0 m (some zs.length)), (2, .sl 1 0 q (some os.length)), (10, .sl 10 0 (n + m + 1) none), (11, .ptr 2 0 0 0), (13, .ptr 6 0 0 0), (15, .int .i64 ((i + 1 : Nat) : Int)), (17, .int .i64 0)] [⟨1, true, none, .ints .i64 zs⟩, ⟨1, true, none, .ints .i64 os⟩, a2.varE false 3 4 5, a2.mapE false, a2.wayE false, a2.orpE false, c0.varE false 7 8 9, c0.mapE false, c0.wayE false, c0.orpE false, ⟨66, false, none, .row (rowHd L)⟩] (by rfl) (by rfl) (by rfl) (by (repeat' (first | exact True.intro | exact rfl | refine And.intro ?_ ?_ | (simp [AV.ren, AV.rens, AObj.ren, Ent.ren, AV.inn, AV.inns, AObj.inn, *]; done)))) (by (repeat' (first | exact True.intro | exact rfl | refine And.intro ?_ ?_ | (simp [AV.ren, AV.rens, AObj.ren, Ent.ren, AV.inn, AV.inns, AObj.inn, *]; done)))) ?_)
        exact ⟨rfl, rfl⟩
      rintro fr hp ⟨rfl, rfl⟩
      unfold Ch.varE Ch.mapE Ch.wayE Ch.orpE
      refine ev_sound tokT (keep := fun _ => true) ?_
      (conv => whnf)
      refine ev_sound tokT (keep := fun _ => true) ?_
      (conv => whnf)
      rw [IntWalk.i64_in (((i + 1 : Nat) : Int) + 1) (by omega)]
      (refine Turned.of [0, 1, 2, 3, 4, 5, 6, 7, 8, 9, 10] [(0, .int .i64 (n : Int)), (1, .sl 0 0 m (some zs.length)), (2, .sl 1 0 q (some os.length)), (10, .sl 10 0 (n + m + 1) none), (11, .ptr 2 0 0 0), (13, .ptr 6 0 0 0), (15, .int .i64 ((i + 1 + 1 : Nat) : Int))] [⟨1, true, none, .ints .i64 zs⟩, ⟨1, true, none, .ints .i64 os⟩, a2.varE false 3 4 5, a2.mapE false, a2.wayE false, a2.orpE false, c0.varE false 7 8 9, c0.mapE false, c0.wayE false, c0.orpE false, ⟨66, false, none, .row (rowHd L)⟩] (by rfl) (by rfl) (by rfl) (by (repeat' (first | exact True.intro | exact rfl | refine And.intro ?_ ?_ | (simp [AV.ren, AV.rens, AObj.ren, Ent.ren, AV.inn, AV.inns, AObj.inn, *]; done)))) (by (repeat' (first | exact True.intro | exact rfl | refine And.intro ?_ ?_ | (simp [AV.ren, AV.rens, AObj.ren, Ent.ren, AV.inn, AV.inns, AObj.inn, *]; done)))) ?_)
      exact ⟨n + m - (i + 1), by omega, i + 1, a2, rfl, by omega, hsq2, rfl, rfl⟩
  rintro fr hp ⟨a, hsq, rfl, rfl⟩
  refine AW.cutT (fun fr hp => ∃ b, AnyC b zs n m q (fun _ => False) ∧ fr = [(0, .int .i64 (n : Int)), (1, .sl 0 0 m (some zs.length)), (2, .sl 1 0 q (some os.length)), (10, .sl 10 0 (n + m + 1) none), (11, .ptr 2 0 0 0), (13, .ptr 6 0 0 0)] ∧ hp = [⟨1, true, none, .ints .i64 zs⟩, ⟨1, true, none, .ints .i64 os⟩, a.varE false 3 4 5, a.mapE false, a.wayE false, a.orpE false, b.varE false 7 8 9, b.mapE false, b.wayE false, b.orpE false, ⟨66, false, none, .row (rowHd L)⟩]) ?_ ?_
  · unfold Ch.varE Ch.mapE Ch.wayE Ch.orpE
    refine AW.pre tokT (fun _ => true) ?_; (conv => whnf)
    refine AW.block ?_
    (refine AW.turnL [0, 1, 2, 3, 4, 5, 6, 7, 8, 9, 10] [(0, .int .i64 (n : Int)), (1, .sl 0 0 m (some zs.length)), (2, .sl 1 0 q (some os.length)), (10, .sl 10 0 (n + m + 1) none), (11, .ptr 2 0 0 0), (13, .ptr 6 0 0 0), (18, .int .i64 0)] [⟨1, true, none, .ints .i64 zs⟩, ⟨1, true, none, .ints .i64 os⟩, a.varE false 3 4 5, a.mapE false, a.wayE false, a.orpE false, c0.varE false 7 8 9, c0.mapE false, c0.wayE false, c0.orpE false, ⟨66, false, none, .row (rowHd L)⟩] (by rfl) (by rfl) (by rfl) (by (repeat' (first | exact True.intro | exact rfl | refine And.intro ?_ ?_ | (simp [AV.ren, AV.rens, AObj.ren, Ent.ren, AV.inn, AV.inns, AObj.inn, *]; done)))) (by (repeat' (first | exact True.intro | exact rfl | refine And.intro ?_ ?_ | (simp [AV.ren, AV.rens, AObj.ren, Ent.ren, AV.inn, AV.inns, AObj.inn, *]; done)))) ?_)
    refine AW.loop (fun u fr hp => ∃ (i : Nat) (b : Ch), u = q - i ∧ i ≤ q ∧ AnyC b zs n m i (fun _ => False) ∧ fr = [(0, .int .i64 (n : Int)), (1, .sl 0 0 m (some zs.length)), (2, .sl 1 0 q (some os.length)), (10, .sl 10 0 (n + m + 1) none), (11, .ptr 2 0 0 0), (13, .ptr 6 0 0 0), (18, .int .i64 (i : Int))] ∧ hp = [⟨1, true, none, .ints .i64 zs⟩, ⟨1, true, none, .ints .i64 os⟩, a.varE false 3 4 5, a.mapE false, a.wayE false, a.orpE false, b.varE false 7 8 9, b.mapE false, b.wayE false, b.orpE false, ⟨66, false, none, .row (rowHd L)⟩]) q ?_ ?_
    · exact ⟨0, c0, by omega, by omega, hay0, rfl, rfl⟩
    · rintro u fr hp ⟨i, b, rfl, hi, hay, rfl, rfl⟩ -
      refine AW.post ?_
      unfold Ch.varE Ch.mapE Ch.wayE Ch.orpE
      refine AW.pre tokT (fun _ => true) ?_; (conv => whnf)
      by_cases hil : i < q
      case neg =>
        rw [decide_eq_false (show ¬ (i : Int) < (q : Int) by omega)]
        (conv => whnf)
        have hie : i = q := by omega
        rw [hie] at hay
        (refine Turned.of [0, 1, 2, 3, 4, 5, 6, 7, 8, 9, 10] [(0, .int .i64 (n : Int)), (1, .sl 0 0 m (some zs.length)), (2, .sl 1 0 q (some os.length)), (10, .sl 10 0 (n + m + 1) none), (11, .ptr 2 0 0 0), (13, .ptr 6 0 0 0)] [⟨1, true, none, .ints .i64 zs⟩, ⟨1, true, none, .ints .i64 os⟩, a.varE false 3 4 5, a.mapE false, a.wayE false, a.orpE false, b.varE false 7 8 9, b.mapE false, b.wayE false, b.orpE false, ⟨66, false, none, .row (rowHd L)⟩] (by rfl) (by rfl) (by rfl) (by (repeat' (first | exact True.intro | exact rfl | refine And.intro ?_ ?_ | (simp [AV.ren, AV.rens, AObj.ren, Ent.ren, AV.inn, AV.inns, AObj.inn, *]; done)))) (by (repeat' (first | exact True.intro | exact rfl | refine And.intro ?_ ?_ | (simp [AV.ren, AV.rens, AObj.ren, Ent.ren, AV.inn, AV.inns, AObj.inn, *]; done)))) ?_)
        exact ⟨b, hay, rfl, rfl⟩
      rw [decide_eq_true (show (i : Int) < (q : Int) by omega)]
      (conv => whnf)
      refine AW.seq ?_
      refine AW.block ?_
      obtain ⟨z, hz⟩ : ∃ z, os.getD (0 + (i : Int).toNat) 0 = z := ⟨_, rfl⟩
      have hro := round_ok z ((n + m : Nat) : Int) (by omega) (by omega)
      obtain ⟨r, hr⟩ : ∃ r : Nat, z % ((n + m : Nat) : Int) = (r : Int) := ⟨(z % ((n + m : Nat) : Int)).toNat, (Int.toNat_of_nonneg (Int.emod_nonneg _ (by omega))).symm⟩
      have hrl : r < n + m := by have := Int.emod_lt_of_pos z (show (0 : Int) < ((n + m : Nat) : Int) by omega); omega
      rw [hr] at hro
      obtain ⟨h, hh⟩ : ∃ h, L.getD (1 + r) default = h := ⟨_, rfl⟩
      have hrq : (rowHd L)[0 + (((1 + r) : Nat) : Int).toNat]? = some h.segs := by rw [Nat.zero_add, Int.toNat_natCast, ← hh]; exact hd_at L _ (by omega)
      have hhd : hdL L (1 + r) = h := hh
      have hw : h.wf := by rw [← hhd]; exact hLw _ (by omega)
      have hadd := add_ok b hay.kok hay.tree (by have := hay.kok.sum; omega) h hw
      have hay2 := hayA (1 + r) i b _ hay (by omega) (by omega) (by omega)
      rw [hhd] at hay2
      obtain ⟨b2, hb2⟩ : ∃ c2, (addC b h).1 = c2 := ⟨_, rfl⟩
      obtain ⟨E, hE⟩ : ∃ E, (addC b h).2.1 = E := ⟨_, rfl⟩
      obtain ⟨e, he⟩ : ∃ e, (addC b h).2.2 = e := ⟨_, rfl⟩
      rw [hb2, hE, he] at hadd
      rw [hb2] at hay2
      unfold Ch.varE Ch.mapE Ch.wayE Ch.orpE at hadd
      refine ev_sound tokT (keep := fun _ => true) ?_
      ((conv => whnf); (repeat (((refine And.intro (by omega) ?_); (conv => whnf)))))
      rw [hz, show IntKind.i64.wrap (((n + m + 1 : Nat) : Int) - 1) = ((n + m : Nat) : Int) by rw [IntWalk.i64_in _ (by omega)]; omega]
      refine AC.pure (v := .int .i64 (r : Int)) hro (by simp [AV.inns, AV.inn]) (by simp [AV.inn]) ?_
      ((conv => whnf); (repeat (((refine And.intro (by ((repeat (first | rw [IntWalk.i64_in _ (by omega)] | rw [IntWalk.u8_in _ (by omega)] | rw [IntWalk.u32_in _ (by omega)] | rw [IntWalk.u64_in _ (by omega)])); omega)) ?_); (conv => whnf)))))
      rw [show IntKind.i64.wrap (1 + (r : Int)) = ((1 + r : Nat) : Int) by rw [IntWalk.i64_in _ (by omega)]; omega, hrq]
      (conv => whnf)
      refine AC.frame hadd [6, 7, 8, 9] (by (repeat' (first | exact True.intro | exact rfl | refine And.intro ?_ ?_ | (simp [AV.ren, AV.rens, AObj.ren, Ent.ren, AV.inn, AV.inns, AObj.inn, *]; done)))) (by rfl) (by (repeat' (first | exact True.intro | refine And.intro ?_ ?_ | (simp [AV.ren, AV.rens, AObj.ren, Ent.ren, AV.inn, AV.inns, AObj.inn, *]; done)))) (by rfl) ?_
      rintro r0 hp0 ⟨rfl, rfl⟩
      (conv => whnf)
      refine ev_sound tokT (keep := fun _ => true) ?_
      (conv => whnf)
      rw [IntWalk.i64_in ((i : Int) + 1) (by omega)]
      (refine Turned.of [0, 1, 2, 3, 4, 5, 6, 7, 11, 12, 10] [(0, .int .i64 (n : Int)), (1, .sl 0 0 m (some zs.length)), (2, .sl 1 0 q (some os.length)), (10, .sl 10 0 (n + m + 1) none), (11, .ptr 2 0 0 0), (13, .ptr 6 0 0 0), (18, .int .i64 ((i + 1 : Nat) : Int))] [⟨1, true, none, .ints .i64 zs⟩, ⟨1, true, none, .ints .i64 os⟩, a.varE false 3 4 5, a.mapE false, a.wayE false, a.orpE false, b2.varE false 7 8 9, b2.mapE false, b2.wayE false, b2.orpE false, ⟨66, false, none, .row (rowHd L)⟩] (by rfl) (by rfl) (by rfl) (by (repeat' (first | exact True.intro | exact rfl | refine And.intro ?_ ?_ | (simp [AV.ren, AV.rens, AObj.ren, Ent.ren, AV.inn, AV.inns, AObj.inn, *]; done)))) (by (repeat' (first | exact True.intro | exact rfl | refine And.intro ?_ ?_ | (simp [AV.ren, AV.rens, AObj.ren, Ent.ren, AV.inn, AV.inns, AObj.inn, *]; done)))) ?_)
      exact ⟨q - (i + 1), by omega, i + 1, b2, rfl, by omega, hay2.weak fun j h => h.elim, rfl, rfl⟩
  rintro fr hp ⟨b0, hay0, rfl, rfl⟩
  refine AW.cutT (fun fr hp => ∃ b, (b.orphans = [] ∧ b.tip = idI idsO n ∧ b.way.length = n + 1) ∧ (∃ N, KOk b N) ∧ fr = [(0, .int .i64 (n : Int)), (1, .sl 0 0 m (some zs.length)), (2, .sl 1 0 q (some os.length)), (10, .sl 10 0 (n + m + 1) none), (11, .ptr 2 0 0 0), (13, .ptr 6 0 0 0)] ∧ hp = [⟨1, true, none, .ints .i64 zs⟩, ⟨1, true, none, .ints .i64 os⟩, a.varE false 3 4 5, a.mapE false, a.wayE false, a.orpE false, b.varE false 7 8 9, b.mapE false, b.wayE false, b.orpE false, ⟨66, false, none, .row (rowHd L)⟩]) ?_ ?_
  · unfold Ch.varE Ch.mapE Ch.wayE Ch.orpE
    refine AW.pre tokT (fun _ => true) ?_; (conv => whnf)
    refine AW.block ?_
    rw [show IntKind.i64.wrap (((n + m + 1 : Nat) : Int) - 1) = ((n + m : Nat) : Int) by rw [IntWalk.i64_in _ (by omega)]; omega]
    (refine AW.turnL [0, 1, 2, 3, 4, 5, 6, 7, 8, 9, 10] [(0, .int .i64 (n : Int)), (1, .sl 0 0 m (some zs.length)), (2, .sl 1 0 q (some os.length)), (10, .sl 10 0 (n + m + 1) none), (11, .ptr 2 0 0 0), (13, .ptr 6 0 0 0), (19, .int .i64 ((n + m : Nat) : Int))] [⟨1, true, none, .ints .i64 zs⟩, ⟨1, true, none, .ints .i64 os⟩, a.varE false 3 4 5, a.mapE false, a.wayE false, a.orpE false, b0.varE false 7 8 9, b0.mapE false, b0.wayE false, b0.orpE false, ⟨66, false, none, .row (rowHd L)⟩] (by rfl) (by rfl) (by rfl) (by (repeat' (first | exact True.intro | exact rfl | refine And.intro ?_ ?_ | (simp [AV.ren, AV.rens, AObj.ren, Ent.ren, AV.inn, AV.inns, AObj.inn, *]; done)))) (by (repeat' (first | exact True.intro | exact rfl | refine And.intro ?_ ?_ | (simp [AV.ren, AV.rens, AObj.ren, Ent.ren, AV.inn, AV.inns, AObj.inn, *]; done)))) ?_)
    refine AW.loop (fun u fr hp => ∃ b, u ≤ n + m ∧ AnyC b zs n m (q + (n + m - u)) (fun j => u < j ∧ j ≤ n + m) ∧ fr = [(0, .int .i64 (n : Int)), (1, .sl 0 0 m (some zs.length)), (2, .sl 1 0 q (some os.length)), (10, .sl 10 0 (n + m + 1) none), (11, .ptr 2 0 0 0), (13, .ptr 6 0 0 0), (19, .int .i64 (u : Int))] ∧ hp = [⟨1, true, none, .ints .i64 zs⟩, ⟨1, true, none, .ints .i64 os⟩, a.varE false 3 4 5, a.mapE false, a.wayE false, a.orpE false, b.varE false 7 8 9, b.mapE false, b.wayE false, b.orpE false, ⟨66, false, none, .row (rowHd L)⟩]) (n + m) ?_ ?_
    · exact ⟨b0, Nat.le_refl _, by rw [Nat.sub_self, Nat.add_zero]; exact hay0.weak fun j h => by omega, rfl, rfl⟩
    · rintro u fr hp ⟨b, hu, hay, rfl, rfl⟩ -
      refine AW.post ?_
      unfold Ch.varE Ch.mapE Ch.wayE Ch.orpE
      refine AW.pre tokT (fun _ => true) ?_; (conv => whnf)
      cases u with
      | zero =>
        rw [decide_eq_false (show ¬ ((0 : Nat) : Int) > 0 by omega)]
        (conv => whnf)
        have hend := hayE _ b _ hay fun j h1 h2 => ⟨h1, by omega⟩
        (refine Turned.of [0, 1, 2, 3, 4, 5, 6, 7, 8, 9, 10] [(0, .int .i64 (n : Int)), (1, .sl 0 0 m (some zs.length)), (2, .sl 1 0 q (some os.length)), (10, .sl 10 0 (n + m + 1) none), (11, .ptr 2 0 0 0), (13, .ptr 6 0 0 0)] [⟨1, true, none, .ints .i64 zs⟩, ⟨1, true, none, .ints .i64 os⟩, a.varE false 3 4 5, a.mapE false, a.wayE false, a.orpE false, b.varE false 7 8 9, b.mapE false, b.wayE false, b.orpE false, ⟨66, false, none, .row (rowHd L)⟩] (by rfl) (by rfl) (by rfl) (by (repeat' (first | exact True.intro | exact rfl | refine And.intro ?_ ?_ | (simp [AV.ren, AV.rens, AObj.ren, Ent.ren, AV.inn, AV.inns, AObj.inn, *]; done)))) (by (repeat' (first | exact True.intro | exact rfl | refine And.intro ?_ ?_ | (simp [AV.ren, AV.rens, AObj.ren, Ent.ren, AV.inn, AV.inns, AObj.inn, *]; done)))) ?_)
        exact ⟨b, hend, ⟨_, hay.kok⟩, rfl, rfl⟩
      | succ r =>
        rw [decide_eq_true (show ((r + 1 : Nat) : Int) > 0 by omega)]
        (conv => whnf)
        refine AW.seq ?_
        refine AW.block ?_
        obtain ⟨h, hh⟩ : ∃ h, L.getD (r + 1) default = h := ⟨_, rfl⟩
        have hrq : (rowHd L)[0 + (((r + 1) : Nat) : Int).toNat]? = some h.segs := by rw [Nat.zero_add, Int.toNat_natCast, ← hh]; exact hd_at L _ (by omega)
        have hhd : hdL L (r + 1) = h := hh
        have hw : h.wf := by rw [← hhd]; exact hLw _ (by omega)
        have hadd := add_ok b hay.kok hay.tree (by have := hay.kok.sum; omega) h hw
        have hay2 := hayA (r + 1) _ b _ hay (by omega) (by omega) (by omega)
        rw [hhd] at hay2
        obtain ⟨b2, hb2⟩ : ∃ c2, (addC b h).1 = c2 := ⟨_, rfl⟩
        obtain ⟨E, hE⟩ : ∃ E, (addC b h).2.1 = E := ⟨_, rfl⟩
        obtain ⟨e, he⟩ : ∃ e, (addC b h).2.2 = e := ⟨_, rfl⟩
        rw [hb2, hE, he] at hadd
        rw [hb2] at hay2
        unfold Ch.varE Ch.mapE Ch.wayE Ch.orpE at hadd
        refine ev_sound tokT (keep := fun _ => true) ?_
        ((conv => whnf); (repeat (((refine And.intro (by omega) ?_); (conv => whnf)))))
        rw [hrq]
        (conv => whnf)
        refine AC.frame hadd [6, 7, 8, 9] (by (repeat' (first | exact True.intro | exact rfl | refine And.intro ?_ ?_ | (simp [AV.ren, AV.rens, AObj.ren, Ent.ren, AV.inn, AV.inns, AObj.inn, *]; done)))) (by rfl) (by (repeat' (first | exact True.intro | refine And.intro ?_ ?_ | (simp [AV.ren, AV.rens, AObj.ren, Ent.ren, AV.inn, AV.inns, AObj.inn, *]; done)))) (by rfl) ?_
        rintro r0 hp0 ⟨rfl, rfl⟩
        (conv => whnf)
        refine ev_sound tokT (keep := fun _ => true) ?_
        (conv => whnf)
        rw [show IntKind.i64.wrap (((r + 1 : Nat) : Int) - 1) = (r : Int) by rw [IntWalk.i64_in _ (by omega)]; omega]
        (refine Turned.of [0, 1, 2, 3, 4, 5, 6, 7, 11, 12, 10] [(0, .int .i64 (n : Int)), (1, .sl 0 0 m (some zs.length)), (2, .sl 1 0 q (some os.length)), (10, .sl 10 0 (n + m + 1) none), (11, .ptr 2 0 0 0), (13, .ptr 6 0 0 0), (19, .int .i64 (r : Int))] [⟨1, true, none, .ints .i64 zs⟩, ⟨1, true, none, .ints .i64 os⟩, a.varE false 3 4 5, a.mapE false, a.wayE false, a.orpE false, b2.varE false 7 8 9, b2.mapE false, b2.wayE false, b2.orpE false, ⟨66, false, none, .row (rowHd L)⟩] (by rfl) (by rfl) (by rfl) (by (repeat' (first | exact True.intro | exact rfl | refine And.intro ?_ ?_ | (simp [AV.ren, AV.rens, AObj.ren, Ent.ren, AV.inn, AV.inns, AObj.inn, *]; done)))) (by (repeat' (first | exact True.intro | exact rfl | refine And.intro ?_ ?_ | (simp [AV.ren, AV.rens, AObj.ren, Ent.ren, AV.inn, AV.inns, AObj.inn, *]; done)))) ?_)
        refine ⟨r, by omega, b2, by omega, ?_, rfl, rfl⟩
        rw [show q + (n + m - r) = q + (n + m - (r + 1)) + 1 by omega]
        exact hay2.weak fun j h => by omega
  rintro fr hp ⟨b, ⟨hbo, hbt, hbw⟩, ⟨N, hbk⟩, rfl, rfl⟩
  obtain ⟨_, hat, haw2⟩ := hsqE a hsq
  have hak := hsq.kok
  have htipa := tip_ok a hak.way.1 hak.wayn hak.lens
  have htipb := tip_ok b hbk.way.1 hbk.wayn hbk.lens
  have horp := orphans_ok b (by rw [hbo]; simp)
  rw [hat, haw2] at htipa
  rw [hbt, hbw] at htipb
  unfold Ch.varE Ch.mapE Ch.wayE Ch.orpE at htipa htipb horp
  obtain ⟨T, hT⟩ : ∃ T, idI idsO n = T := ⟨_, rfl⟩
  rw [hT] at htipa htipb
  rw [show ((n + 1 : Nat) : Int) - 1 = (n : Int) by omega] at htipa htipb
  refine AW.cutT (fun fr hp => fr = [(0, .int .i64 (n : Int)), (1, .sl 0 0 m (some zs.length)), (2, .sl 1 0 q (some os.length)), (10, .sl 10 0 (n + m + 1) none), (11, .ptr 2 0 0 0), (13, .ptr 6 0 0 0), (20, .ptr 11 0 0 0), (21, .int .i64 (n : Int))] ∧ hp = [⟨1, true, none, .ints .i64 zs⟩, ⟨1, true, none, .ints .i64 os⟩, a.varE false 3 4 5, a.mapE false, a.wayE false, a.orpE false, b.varE false 7 8 9, b.mapE false, b.wayE false, b.orpE false, ⟨66, false, none, .row (rowHd L)⟩, ⟨32, false, none, .var [.ints .u8 32 T]⟩]) ?_ ?_
  · unfold Ch.varE Ch.mapE Ch.wayE Ch.orpE
    refine ev_sound tokT (keep := fun _ => true) ?_
    (conv => whnf)
    refine AC.frame htipa [2, 3, 4, 5] (by (repeat' (first | exact True.intro | exact rfl | refine And.intro ?_ ?_ | (simp [AV.ren, AV.rens, AObj.ren, Ent.ren, AV.inn, AV.inns, AObj.inn, *]; done)))) (by rfl) (by (repeat' (first | exact True.intro | refine And.intro ?_ ?_ | (simp [AV.ren, AV.rens, AObj.ren, Ent.ren, AV.inn, AV.inns, AObj.inn, *]; done)))) (by rfl) ?_
    rintro r0 hp0 ⟨rfl, rfl⟩
    (conv => whnf)
    (refine Turned.of [0, 1, 2, 3, 4, 5, 6, 7, 8, 9, 10, 11] [(0, .int .i64 (n : Int)), (1, .sl 0 0 m (some zs.length)), (2, .sl 1 0 q (some os.length)), (10, .sl 10 0 (n + m + 1) none), (11, .ptr 2 0 0 0), (13, .ptr 6 0 0 0), (20, .ptr 11 0 0 0), (21, .int .i64 (n : Int))] [⟨1, true, none, .ints .i64 zs⟩, ⟨1, true, none, .ints .i64 os⟩, a.varE false 3 4 5, a.mapE false, a.wayE false, a.orpE false, b.varE false 7 8 9, b.mapE false, b.wayE false, b.orpE false, ⟨66, false, none, .row (rowHd L)⟩, ⟨32, false, none, .var [.ints .u8 32 T]⟩] (by rfl) (by rfl) (by rfl) (by (repeat' (first | exact True.intro | exact rfl | refine And.intro ?_ ?_ | (simp [AV.ren, AV.rens, AObj.ren, Ent.ren, AV.inn, AV.inns, AObj.inn, *]; done)))) (by (repeat' (first | exact True.intro | exact rfl | refine And.intro ?_ ?_ | (simp [AV.ren, AV.rens, AObj.ren, Ent.ren, AV.inn, AV.inns, AObj.inn, *]; done)))) ?_)
    exact ⟨rfl, rfl⟩
  rintro fr hp ⟨rfl, rfl⟩
  refine AW.cutT (fun fr hp => fr = [(0, .int .i64 (n : Int)), (1, .sl 0 0 m (some zs.length)), (2, .sl 1 0 q (some os.length)), (10, .sl 10 0 (n + m + 1) none), (11, .ptr 2 0 0 0), (13, .ptr 6 0 0 0), (20, .ptr 11 0 0 0), (21, .int .i64 (n : Int)), (22, .ptr 12 0 0 0), (23, .int .i64 (n : Int))] ∧ hp = [⟨1, true, none, .ints .i64 zs⟩, ⟨1, true, none, .ints .i64 os⟩, a.varE false 3 4 5, a.mapE false, a.wayE false, a.orpE false, b.varE false 7 8 9, b.mapE false, b.wayE false, b.orpE false, ⟨66, false, none, .row (rowHd L)⟩, ⟨32, false, none, .var [.ints .u8 32 T]⟩, ⟨32, false, none, .var [.ints .u8 32 T]⟩]) ?_ ?_
  · unfold Ch.varE Ch.mapE Ch.wayE Ch.orpE
    refine ev_sound tokT (keep := fun _ => true) ?_
    (conv => whnf)
    refine AC.frame htipb [6, 7, 8, 9] (by (repeat' (first | exact True.intro | exact rfl | refine And.intro ?_ ?_ | (simp [AV.ren, AV.rens, AObj.ren, Ent.ren, AV.inn, AV.inns, AObj.inn, *]; done)))) (by rfl) (by (repeat' (first | exact True.intro | refine And.intro ?_ ?_ | (simp [AV.ren, AV.rens, AObj.ren, Ent.ren, AV.inn, AV.inns, AObj.inn, *]; done)))) (by rfl) ?_
    rintro r0 hp0 ⟨rfl, rfl⟩
    (conv => whnf)
    (refine Turned.of [0, 1, 2, 3, 4, 5, 6, 7, 8, 9, 10, 11, 12] [(0, .int .i64 (n : Int)), (1, .sl 0 0 m (some zs.length)), (2, .sl 1 0 q (some os.length)), (10, .sl 10 0 (n + m + 1) none), (11, .ptr 2 0 0 0), (13, .ptr 6 0 0 0), (20, .ptr 11 0 0 0), (21, .int .i64 (n : Int)), (22, .ptr 12 0 0 0), (23, .int .i64 (n : Int))] [⟨1, true, none, .ints .i64 zs⟩, ⟨1, true, none, .ints .i64 os⟩, a.varE false 3 4 5, a.mapE false, a.wayE false, a.orpE false, b.varE false 7 8 9, b.mapE false, b.wayE false, b.orpE false, ⟨66, false, none, .row (rowHd L)⟩, ⟨32, false, none, .var [.ints .u8 32 T]⟩, ⟨32, false, none, .var [.ints .u8 32 T]⟩] (by rfl) (by rfl) (by rfl) (by (repeat' (first | exact True.intro | exact rfl | refine And.intro ?_ ?_ | (simp [AV.ren, AV.rens, AObj.ren, Ent.ren, AV.inn, AV.inns, AObj.inn, *]; done)))) (by (repeat' (first | exact True.intro | exact rfl | refine And.intro ?_ ?_ | (simp [AV.ren, AV.rens, AObj.ren, Ent.ren, AV.inn, AV.inns, AObj.inn, *]; done)))) ?_)
    exact ⟨rfl, rfl⟩
  rintro fr hp ⟨rfl, rfl⟩
  unfold Ch.varE Ch.mapE Ch.wayE Ch.orpE
  obtain ⟨hx, hhx⟩ : ∃ h, L.getD n default = h := ⟨_, rfl⟩
  have hrx : (rowHd L)[0 + (n : Int).toNat]? = some hx.segs := by rw [Nat.zero_add, Int.toNat_natCast, ← hhx]; exact hd_at L _ (by omega)
  have hxw : hx.wf := by rw [← hhx]; exact hLw n (by omega)
  have hri := refid_ok hx hxw
  have hidx : hidOf hx = T := by rw [← hhx, ← hT, ← hmn]; rfl
  rw [hidx] at hri
  have hii : (T == T) = true := by simp
  have hnn : ((n : Int) == (n : Int)) = true := by simp
  have hq0 : ((b.orphans.length : Int) == 0) = true := by rw [hbo]; rfl
  refine AW.seq (AW.drawT (.pure 0 (.pure 1 (.pure 2 (.pure 3 (.pure 4 (.pure 5 (.pure 6 (.pure 7 (.pure 8 (.pure 9 (.pure 10 (.pure 11 (.pure 12 (.pure 13 (.pure 14 (.pure 15 (.pure 16 (.pure 17 (.pure 18 (.one 19 (.pure 20 (.pure 21 (.pure 22 (.pure 23 (.one 24 (.pure 25 (.pure 26 (.pure 27 (.pure 28 (.one 29 (.pure 30 (.pure 31 .fin)))))))))))))))))))))))))))))))) (keep := fun _ => true) mixed_okC tokT (by kernel_rfl) (by kernel_rfl) ?_)
  (conv => whnf); (repeat (refine Exists.intro _ (And.intro (by (conv => whnf); exact ⟨rfl, rfl⟩) ?_); (conv => whnf)))
  rw [hii]
  (conv => whnf); (repeat (refine Exists.intro _ (And.intro (by (conv => whnf); exact ⟨rfl, rfl⟩) ?_); (conv => whnf)))
  rw [hnn]
  (conv => whnf); (repeat (refine Exists.intro _ (And.intro (by (conv => whnf); exact ⟨rfl, rfl⟩) ?_); (conv => whnf)))
  rw [hnn]
  (conv => whnf); (repeat (refine Exists.intro _ (And.intro (by (conv => whnf); exact ⟨rfl, rfl⟩) ?_); (conv => whnf)))
  refine Exists.intro _ (And.intro (by (conv => whnf); exact ⟨by omega, by omega, rfl, rfl⟩) ?_)
  (conv => whnf); (repeat (refine Exists.intro _ (And.intro (by (conv => whnf); exact ⟨rfl, rfl⟩) ?_); (conv => whnf)))
  refine Exists.intro hx.av (And.intro (by (conv => whnf); rw [hrx]; exact ⟨rfl, rfl⟩) ?_)
  (conv => whnf); (repeat (refine Exists.intro _ (And.intro (by (conv => whnf); exact ⟨rfl, rfl⟩) ?_); (conv => whnf)))
  refine AC.pure (v := .agg [.ints .u8 32 T]) hri (by simp [AV.inns, AV.inn]) (by simp [AV.inn, AV.inns]) ?_
  ((conv => whnf); (repeat (first | ((with_reducible (refine And.intro (show Go.Aw.againsK _ _ _ _ _ from ?_) ?_)); (focus (repeat' (first | ((with_reducible (show Go.Aw.againsK _ _ _ _ _)); (conv => whnf)) | ((with_reducible (show Go.Aw.againK _ _ _ _ _)); (conv => whnf)) | (with_reducible (exact True.intro)) | (with_reducible (refine And.intro ?_ ?_)) | exact rfl | omega | (simp; done)))); (conv => whnf)) | ((refine Exists.intro _ (And.intro (by ((conv => whnf); (repeat ((refine And.intro (by exact rfl) ?_); (conv => whnf))))) ?_)); (conv => whnf)))))
  rw [hii]
  (conv => whnf); (repeat (refine Exists.intro _ (And.intro (by (conv => whnf); exact ⟨rfl, rfl⟩) ?_); (conv => whnf)))
  refine AC.frame horp [6, 7, 8, 9] (by (repeat' (first | exact True.intro | exact rfl | refine And.intro ?_ ?_ | (simp [AV.ren, AV.rens, AObj.ren, Ent.ren, AV.inn, AV.inns, AObj.inn, *]; done)))) (by rfl) (by (repeat' (first | exact True.intro | refine And.intro ?_ ?_ | (simp [AV.ren, AV.rens, AObj.ren, Ent.ren, AV.inn, AV.inns, AObj.inn, *]; done)))) (by rfl) ?_
  rintro r0 hp0 ⟨rfl, rfl⟩
  ((conv => whnf); (repeat (first | ((with_reducible (refine And.intro (show Go.Aw.againsK _ _ _ _ _ from ?_) ?_)); (focus (repeat' (first | ((with_reducible (show Go.Aw.againsK _ _ _ _ _)); (conv => whnf)) | ((with_reducible (show Go.Aw.againK _ _ _ _ _)); (conv => whnf)) | (with_reducible (exact True.intro)) | (with_reducible (refine And.intro ?_ ?_)) | exact rfl | omega | (simp; done)))); (conv => whnf)) | ((refine Exists.intro _ (And.intro (by ((conv => whnf); (repeat ((refine And.intro (by exact rfl) ?_); (conv => whnf))))) ?_)); (conv => whnf)))))
  rw [hq0]
  (conv => whnf); (repeat (refine Exists.intro _ (And.intro (by (conv => whnf); exact ⟨rfl, rfl⟩) ?_); (conv => whnf)))
  refine AC.pure (v := .bool true) haw (by simp [AV.inns]) (by simp [AV.inn]) ?_
  ((conv => whnf); (repeat (first | ((with_reducible (refine And.intro (show Go.Aw.againsK _ _ _ _ _ from ?_) ?_)); (focus (repeat' (first | ((with_reducible (show Go.Aw.againsK _ _ _ _ _)); (conv => whnf)) | ((with_reducible (show Go.Aw.againK _ _ _ _ _)); (conv => whnf)) | (with_reducible (exact True.intro)) | (with_reducible (refine And.intro ?_ ?_)) | exact rfl | omega | (simp; done) | (simp; omega)))); (conv => whnf)) | ((refine Exists.intro _ (And.intro (by ((conv => whnf); (repeat ((refine And.intro (by exact rfl) ?_); (conv => whnf))))) ?_)); (conv => whnf)))))
  refine ev_sound tokT (keep := fun _ => true) ?_
  (conv => whnf)
  (refine Left.of [0, 1] (.bool true) [⟨1, true, none, .ints .i64 zs⟩, ⟨1, true, none, .ints .i64 os⟩] (by rfl) (by rfl) (by rfl) (by (repeat' (first | exact True.intro | exact rfl | refine And.intro ?_ ?_))) (by rfl) (by (repeat' (first | exact True.intro | exact rfl | refine And.intro ?_ ?_))) ?_)
  rfl
end Go.Aw
