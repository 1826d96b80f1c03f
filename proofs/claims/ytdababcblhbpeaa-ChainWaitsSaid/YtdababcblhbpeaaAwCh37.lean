/-
  AwCh37: ChainWaits: the walk. Own work.
-/
import Derived.Test.YtdababcblhbpeaaAwCh36
import Derived.Test.YtdababcblhbpeaaAwCh35
import Derived.Test.YtdababcblhbpeaaAwAr
import Derived.Test.YtdababcblhbpeaaAwCh20
import Derived.Test.YtdababcblhbpeaaM4
set_option linter.unusedVariables false
set_option linter.unusedSimpArgs false
set_option maxRecDepth 20000
set_option maxHeartbeats 4000000
open Go.Proofs
namespace Go.Aw

theorem run_ex (p : Nat → Bool) : ∀ (n : Nat), 1 ≤ n → ∃ u, 1 ≤ u ∧ u ≤ n ∧ (∀ j, 2 ≤ j → j ≤ u → p j = true) ∧ (u < n → p (u + 1) = false)
  | 0, h => absurd h (by omega)
  | n + 1, _ => by
    rcases Nat.eq_zero_or_pos n with g | g
    · subst g
      exact ⟨1, by omega, by omega, fun j h1 h2 => absurd h2 (by omega), fun h => absurd h (by omega)⟩
    · obtain ⟨u, h1, h2, h3, h4⟩ := run_ex p n g
      rcases Nat.lt_or_ge u n with q | q
      · exact ⟨u, h1, by omega, h3, fun _ => h4 q⟩
      · have hun : u = n := by omega
        subst hun
        cases hp : p (u + 1) with
        | false => exact ⟨u, h1, by omega, h3, fun _ => hp⟩
        | true =>
          refine ⟨u + 1, by omega, by omega, fun j a b => ?_, fun h => absurd h (by omega)⟩
          rcases Nat.lt_or_ge u j with r | r
          · have : j = u + 1 := by omega
            rw [this]; exact hp
          · exact h3 j a r
theorem waits_law (n0 most : Int) (os : List Int) (q : Nat) (hq : q ≤ os.length) :
    AC Try.prog 18 [.int .i64 n0, .int .i64 most, .sl 0 0 q (some os.length)] [⟨1, true, none, .ints .i64 os⟩] (fun r hp' => r = .bool true) := by
  refine AC.left (AC.body tokT Try.func18 rfl rfl rfl (by decide) (by rfl) ?_)
  have haw := awake_ok
  refine AW.pre tokT (fun _ => true) ?_; (conv => whnf)
  refine AW.cutT (fun fr hp => (1 ≤ n0 ∧ n0 ≤ 20 ∧ 0 ≤ most ∧ most ≤ 30 ∧ q ≤ 40) ∧ fr = [(0, .int .i64 n0), (1, .int .i64 most), (2, .sl 0 0 q (some os.length))] ∧ hp = [⟨1, true, none, .ints .i64 os⟩]) ?_ ?_
  · refine AW.cutT (fun fr hp => ∃ b, (b = false → 1 ≤ n0 ∧ n0 ≤ 20 ∧ 0 ≤ most ∧ most ≤ 30 ∧ q ≤ 40) ∧ fr = [(0, .int .i64 n0), (1, .int .i64 most), (2, .sl 0 0 q (some os.length)), (41, .bool b)] ∧ hp = [⟨1, true, none, .ints .i64 os⟩]) ?_ ?_
    · refine ev_sound tokT (keep := fun _ => true) ?_
      (conv => whnf); (cases g1 : (decide (n0 < 1) : Bool) <;> (try simp only [beq_iff_eq, beq_eq_false_iff_ne, ne_eq, decide_eq_true_eq, decide_eq_false_iff_not, bne_iff_ne, bne_eq_false_iff_eq, Bool.not_eq_true, Bool.not_eq_false, gt_iff_lt, ge_iff_le] at g1) <;> (try (exfalso; omega)))
      case' true =>
        (conv => whnf)
        (refine Turned.of [0] [(0, .int .i64 n0), (1, .int .i64 most), (2, .sl 0 0 q (some os.length)), (41, .bool true)] [⟨1, true, none, .ints .i64 os⟩] (by rfl) (by rfl) (by rfl) (by (repeat' (first | exact True.intro | exact rfl | refine And.intro ?_ ?_ | (simp [AV.ren, AV.rens, AObj.ren, Ent.ren, AV.inn, AV.inns, AObj.inn, *]; done)))) (by (repeat' (first | exact True.intro | exact rfl | refine And.intro ?_ ?_ | (simp [AV.ren, AV.rens, AObj.ren, Ent.ren, AV.inn, AV.inns, AObj.inn, *]; done)))) ?_)
        exact ⟨true, fun h => (by cases h), rfl, rfl⟩
      (conv => whnf); (cases g2 : (decide (n0 > 20) : Bool) <;> (try simp only [beq_iff_eq, beq_eq_false_iff_ne, ne_eq, decide_eq_true_eq, decide_eq_false_iff_not, bne_iff_ne, bne_eq_false_iff_eq, Bool.not_eq_true, Bool.not_eq_false, gt_iff_lt, ge_iff_le] at g2) <;> (try (exfalso; omega)))
      case' true =>
        (conv => whnf)
        (refine Turned.of [0] [(0, .int .i64 n0), (1, .int .i64 most), (2, .sl 0 0 q (some os.length)), (41, .bool true)] [⟨1, true, none, .ints .i64 os⟩] (by rfl) (by rfl) (by rfl) (by (repeat' (first | exact True.intro | exact rfl | refine And.intro ?_ ?_ | (simp [AV.ren, AV.rens, AObj.ren, Ent.ren, AV.inn, AV.inns, AObj.inn, *]; done)))) (by (repeat' (first | exact True.intro | exact rfl | refine And.intro ?_ ?_ | (simp [AV.ren, AV.rens, AObj.ren, Ent.ren, AV.inn, AV.inns, AObj.inn, *]; done)))) ?_)
        exact ⟨true, fun h => (by cases h), rfl, rfl⟩
      (conv => whnf); (cases g3 : (decide (most < 0) : Bool) <;> (try simp only [beq_iff_eq, beq_eq_false_iff_ne, ne_eq, decide_eq_true_eq, decide_eq_false_iff_not, bne_iff_ne, bne_eq_false_iff_eq, Bool.not_eq_true, Bool.not_eq_false, gt_iff_lt, ge_iff_le] at g3) <;> (try (exfalso; omega)))
      case' true =>
        (conv => whnf)
        (refine Turned.of [0] [(0, .int .i64 n0), (1, .int .i64 most), (2, .sl 0 0 q (some os.length)), (41, .bool true)] [⟨1, true, none, .ints .i64 os⟩] (by rfl) (by rfl) (by rfl) (by (repeat' (first | exact True.intro | exact rfl | refine And.intro ?_ ?_ | (simp [AV.ren, AV.rens, AObj.ren, Ent.ren, AV.inn, AV.inns, AObj.inn, *]; done)))) (by (repeat' (first | exact True.intro | exact rfl | refine And.intro ?_ ?_ | (simp [AV.ren, AV.rens, AObj.ren, Ent.ren, AV.inn, AV.inns, AObj.inn, *]; done)))) ?_)
        exact ⟨true, fun h => (by cases h), rfl, rfl⟩
      (conv => whnf); (cases g4 : (decide (most > 30) : Bool) <;> (try simp only [beq_iff_eq, beq_eq_false_iff_ne, ne_eq, decide_eq_true_eq, decide_eq_false_iff_not, bne_iff_ne, bne_eq_false_iff_eq, Bool.not_eq_true, Bool.not_eq_false, gt_iff_lt, ge_iff_le] at g4) <;> (try (exfalso; omega)))
      case' true =>
        (conv => whnf)
        (refine Turned.of [0] [(0, .int .i64 n0), (1, .int .i64 most), (2, .sl 0 0 q (some os.length)), (41, .bool true)] [⟨1, true, none, .ints .i64 os⟩] (by rfl) (by rfl) (by rfl) (by (repeat' (first | exact True.intro | exact rfl | refine And.intro ?_ ?_ | (simp [AV.ren, AV.rens, AObj.ren, Ent.ren, AV.inn, AV.inns, AObj.inn, *]; done)))) (by (repeat' (first | exact True.intro | exact rfl | refine And.intro ?_ ?_ | (simp [AV.ren, AV.rens, AObj.ren, Ent.ren, AV.inn, AV.inns, AObj.inn, *]; done)))) ?_)
        exact ⟨true, fun h => (by cases h), rfl, rfl⟩
      (conv => whnf)
      (refine Turned.of [0] [(0, .int .i64 n0), (1, .int .i64 most), (2, .sl 0 0 q (some os.length)), (41, .bool (decide ((q : Int) > 40)))] [⟨1, true, none, .ints .i64 os⟩] (by rfl) (by rfl) (by rfl) (by (repeat' (first | exact True.intro | exact rfl | refine And.intro ?_ ?_ | (simp [AV.ren, AV.rens, AObj.ren, Ent.ren, AV.inn, AV.inns, AObj.inn, *]; done)))) (by (repeat' (first | exact True.intro | exact rfl | refine And.intro ?_ ?_ | (simp [AV.ren, AV.rens, AObj.ren, Ent.ren, AV.inn, AV.inns, AObj.inn, *]; done)))) ?_)
      exact ⟨_, fun h => ⟨by omega, by omega, by omega, by omega, by have := of_decide_eq_false h; omega⟩, rfl, rfl⟩
    rintro fr hp ⟨b, hb, rfl, rfl⟩
    refine AW.condK ?_
    (conv => whnf)
    cases b with
    | true =>
      (conv => whnf)
      refine AW.pre tokT (fun _ => true) ?_; (conv => whnf)
      refine AC.pure (v := .bool true) haw (by simp [AV.inns]) (by simp [AV.inn]) ?_
      (conv => whnf)
      refine ev_sound tokT (keep := fun _ => true) ?_
      (conv => whnf)
      (refine Left.of [0] (.bool true) [⟨1, true, none, .ints .i64 os⟩] (by rfl) (by rfl) (by rfl) (by (repeat' (first | exact True.intro | exact rfl | refine And.intro ?_ ?_))) (by rfl) (by (repeat' (first | exact True.intro | exact rfl | refine And.intro ?_ ?_))) ?_)
      rfl
    | false =>
      refine ev_sound tokT (keep := fun _ => true) ?_
      (conv => whnf)
      (refine Turned.of [0] [(0, .int .i64 n0), (1, .int .i64 most), (2, .sl 0 0 q (some os.length))] [⟨1, true, none, .ints .i64 os⟩] (by rfl) (by rfl) (by rfl) (by (repeat' (first | exact True.intro | exact rfl | refine And.intro ?_ ?_ | (simp [AV.ren, AV.rens, AObj.ren, Ent.ren, AV.inn, AV.inns, AObj.inn, *]; done)))) (by (repeat' (first | exact True.intro | exact rfl | refine And.intro ?_ ?_ | (simp [AV.ren, AV.rens, AObj.ren, Ent.ren, AV.inn, AV.inns, AObj.inn, *]; done)))) ?_)
      exact ⟨hb rfl, rfl, rfl⟩
  rintro fr hp ⟨⟨hn1, hn2, hm0, hm30, hq40⟩, rfl, rfl⟩
  obtain ⟨n, rfl⟩ := Int.eq_ofNat_of_zero_le (show 0 ≤ n0 by omega)
  have hn : 1 ≤ n ∧ n ≤ 20 := by omega
  refine AW.pre tokT (fun _ => true) ?_; (conv => whnf)
  refine AW.nils [7] 2 (.row []) _ _ rfl rfl rfl ?_
  refine AW.cutT (fun fr hp => fr = [(0, .int .i64 (n : Int)), (1, .int .i64 most), (2, .sl 0 0 q (some os.length)), (7, .sl 1 0 n none)] ∧ hp = [⟨1, true, none, .ints .i64 os⟩, ⟨2, false, none, .row (rowMd (wM n))⟩]) ?_ ?_
  · refine AW.pre tokT (fun _ => true) ?_; (conv => whnf)
    (refine AW.turnL [0, 1] [(0, .int .i64 (n : Int)), (1, .int .i64 most), (2, .sl 0 0 q (some os.length)), (7, .sl 1 0 0 none), (8, .int .i64 0)] [⟨1, true, none, .ints .i64 os⟩, ⟨2, false, none, .row (rowMd (wM 0))⟩] (by rfl) (by rfl) (by rfl) (by (repeat' (first | exact True.intro | exact rfl | refine And.intro ?_ ?_ | (simp [AV.ren, AV.rens, AObj.ren, Ent.ren, AV.inn, AV.inns, AObj.inn, *]; done)))) (by (repeat' (first | exact True.intro | exact rfl | refine And.intro ?_ ?_ | (simp [AV.ren, AV.rens, AObj.ren, Ent.ren, AV.inn, AV.inns, AObj.inn, *]; done)))) ?_)
    refine AW.block ?_
    refine AW.loop (fun u fr hp => ∃ i : Nat, u = n - i ∧ i ≤ n ∧ fr = [(0, .int .i64 (n : Int)), (1, .int .i64 most), (2, .sl 0 0 q (some os.length)), (7, .sl 1 0 i none), (8, .int .i64 (i : Int))] ∧ hp = [⟨1, true, none, .ints .i64 os⟩, ⟨2, false, none, .row (rowMd (wM i))⟩]) n ?_ ?_
    · exact ⟨0, by omega, by omega, rfl, rfl⟩
    · rintro u fr hp ⟨i, rfl, hi, rfl, rfl⟩ -
      refine AW.post ?_
      refine AW.pre tokT (fun _ => true) ?_; (conv => whnf)
      by_cases hil : i < n
      case neg =>
        rw [decide_eq_false (show ¬ (i : Int) < (n : Int) by omega)]
        (conv => whnf)
        have hie : n = i := by omega
        subst hie
        (refine Turned.of [0, 1] [(0, .int .i64 (n : Int)), (1, .int .i64 most), (2, .sl 0 0 q (some os.length)), (7, .sl 1 0 n none)] [⟨1, true, none, .ints .i64 os⟩, ⟨2, false, none, .row (rowMd (wM n))⟩] (by rfl) (by rfl) (by rfl) (by (repeat' (first | exact True.intro | exact rfl | refine And.intro ?_ ?_ | (simp [AV.ren, AV.rens, AObj.ren, Ent.ren, AV.inn, AV.inns, AObj.inn, *]; done)))) (by (repeat' (first | exact True.intro | exact rfl | refine And.intro ?_ ?_ | (simp [AV.ren, AV.rens, AObj.ren, Ent.ren, AV.inn, AV.inns, AObj.inn, *]; done)))) ?_)
        exact ⟨rfl, rfl⟩
      rw [decide_eq_true (show (i : Int) < (n : Int) by omega)]
      (conv => whnf)
      refine AW.seq ?_
      refine AW.block ?_
      have hsn := rowMd_snoc (wM i) i ⟨(i : Int), ((1 + i : Nat) : Int)⟩ (wM_len i).symm
      rw [← wM_succ] at hsn
      simp only [] at hsn
      refine ev_sound tokT (keep := fun _ => true) ?_
      ((conv => whnf); (repeat (((refine And.intro (by first | (simp; done) | (simp [roomMost]; omega)) ?_); (conv => whnf)))))
      rw [IntWalk.i64_in (1 + (i : Int)) (by omega), show 1 + (i : Int) = ((1 + i : Nat) : Int) by omega, hsn]
      refine ev_sound tokT (keep := fun _ => true) ?_
      (conv => whnf)
      rw [IntWalk.i64_in ((i : Int) + 1) (by omega)]
      (refine Turned.of [0, 3] [(0, .int .i64 (n : Int)), (1, .int .i64 most), (2, .sl 0 0 q (some os.length)), (7, .sl 1 0 (i + 1) none), (8, .int .i64 ((i + 1 : Nat) : Int))] [⟨1, true, none, .ints .i64 os⟩, ⟨2, false, none, .row (rowMd (wM (i + 1)))⟩] (by rfl) (by rfl) (by rfl) (by (repeat' (first | exact True.intro | exact rfl | refine And.intro ?_ ?_ | (simp [AV.ren, AV.rens, AObj.ren, Ent.ren, AV.inn, AV.inns, AObj.inn, *]; done)))) (by (repeat' (first | exact True.intro | exact rfl | refine And.intro ?_ ?_ | (simp [AV.ren, AV.rens, AObj.ren, Ent.ren, AV.inn, AV.inns, AObj.inn, *]; done)))) ?_)
      exact ⟨n - (i + 1), by omega, i + 1, rfl, by omega, rfl, rfl⟩
  rintro fr hp ⟨rfl, rfl⟩
  have hcast := cast_ok (wM n) none (by rw [wM_len]; omega)
  rw [wM_len] at hcast
  have hLl := w_len n
  have hL0 := (castA_props (wM n)).2.2
  have F := w_forest (n := n) hn.2
  obtain ⟨hnb, hwt0⟩ := wait_new hn (most := most) ⟨hm0, hm30⟩
  have hwA := fun (j w N : Nat) (c : Ch) (seen : List Bool) (h : WaitC c n most seen w N) hN hj hsl => wait_add (j := j) hn h hN hj hsl
  have hwE := fun (u w N : Nat) (c : Ch) (seen : List Bool) (h : WaitC c n most seen w N) hN hu hs hst => wait_end (u := u) hn h hN hu hs hst
  obtain ⟨L, hL⟩ : ∃ L, castA (wM n) = L := ⟨_, rfl⟩
  rw [hL] at hcast hLl hL0 F
  rw [hL] at hwA hwE
  have hLw := F.wf
  have hrL0 : (rowHd L)[0 + Int.toNat 0]? = some gen0.segs := by simp [rowHd, hL0]
  have hnew := new_ok gen0 100 most gen0_wf hnb
  obtain ⟨c0, hc0⟩ : ∃ c0, newC gen0 100 most = c0 := ⟨_, rfl⟩
  rw [hc0] at hnew hwt0
  refine AW.cutT (fun fr hp => fr = [(0, .int .i64 (n : Int)), (1, .int .i64 most), (2, .sl 0 0 q (some os.length)), (9, .sl 1 0 (n + 1) none)] ∧ hp = [⟨1, true, none, .ints .i64 os⟩, ⟨66, false, none, .row (rowHd L)⟩]) ?_ ?_
  · refine ev_sound tokT (keep := fun _ => true) ?_
    (conv => whnf)
    refine AC.frame hcast [1] (by (repeat' (first | exact True.intro | exact rfl | refine And.intro ?_ ?_ | (simp [AV.ren, AV.rens, AObj.ren, Ent.ren, AV.inn, AV.inns, AObj.inn, *]; done)))) (by rfl) (by (repeat' (first | exact True.intro | refine And.intro ?_ ?_ | (simp [AV.ren, AV.rens, AObj.ren, Ent.ren, AV.inn, AV.inns, AObj.inn, *]; done)))) (by rfl) ?_
    rintro r0 hp0 ⟨rfl, rfl⟩
    (conv => whnf)
    (refine Turned.of [0, 2] [(0, .int .i64 (n : Int)), (1, .int .i64 most), (2, .sl 0 0 q (some os.length)), (9, .sl 1 0 (n + 1) none)] [⟨1, true, none, .ints .i64 os⟩, ⟨66, false, none, .row (rowHd L)⟩] (by rfl) (by rfl) (by rfl) (by (repeat' (first | exact True.intro | exact rfl | refine And.intro ?_ ?_ | (simp [AV.ren, AV.rens, AObj.ren, Ent.ren, AV.inn, AV.inns, AObj.inn, *]; done)))) (by (repeat' (first | exact True.intro | exact rfl | refine And.intro ?_ ?_ | (simp [AV.ren, AV.rens, AObj.ren, Ent.ren, AV.inn, AV.inns, AObj.inn, *]; done)))) ?_)
    exact ⟨rfl, rfl⟩
  rintro fr hp ⟨rfl, rfl⟩
  refine AW.cutT (fun fr hp => fr = [(0, .int .i64 (n : Int)), (1, .int .i64 most), (2, .sl 0 0 q (some os.length)), (9, .sl 5 0 (n + 1) none), (10, .ptr 1 0 0 0), (11, .int .i64 0)] ∧ hp = [⟨1, true, none, .ints .i64 os⟩, c0.varE false 2 3 4, c0.mapE false, c0.wayE false, c0.orpE false, ⟨66, false, none, .row (rowHd L)⟩]) ?_ ?_
  · unfold Ch.varE Ch.mapE Ch.wayE Ch.orpE
    refine ev_sound tokT (keep := fun _ => true) ?_
    ((conv => whnf); (repeat (((refine And.intro (by omega) ?_); (conv => whnf)))))
    rw [hrL0]
    (conv => whnf)
    refine AC.frame hnew [] (by (repeat' (exact True.intro))) (by rfl) (by (repeat' (first | exact True.intro | refine And.intro ?_ ?_))) (by rfl) ?_
    rintro r0 hp0 ⟨rfl, rfl⟩
    (conv => whnf)
    (refine Turned.of [0, 2, 3, 4, 5, 1] [(0, .int .i64 (n : Int)), (1, .int .i64 most), (2, .sl 0 0 q (some os.length)), (9, .sl 5 0 (n + 1) none), (10, .ptr 1 0 0 0), (11, .int .i64 0)] [⟨1, true, none, .ints .i64 os⟩, c0.varE false 2 3 4, c0.mapE false, c0.wayE false, c0.orpE false, ⟨66, false, none, .row (rowHd L)⟩] (by rfl) (by rfl) (by rfl) (by (repeat' (first | exact True.intro | exact rfl | refine And.intro ?_ ?_ | (simp [AV.ren, AV.rens, AObj.ren, Ent.ren, AV.inn, AV.inns, AObj.inn, *]; done)))) (by (repeat' (first | exact True.intro | exact rfl | refine And.intro ?_ ?_ | (simp [AV.ren, AV.rens, AObj.ren, Ent.ren, AV.inn, AV.inns, AObj.inn, *]; done)))) ?_)
    exact ⟨rfl, rfl⟩
  rintro fr hp ⟨rfl, rfl⟩
  refine AW.cutT (fun fr hp => fr = [(0, .int .i64 (n : Int)), (1, .int .i64 most), (2, .sl 0 0 q (some os.length)), (9, .sl 5 0 (n + 1) none), (10, .ptr 1 0 0 0)] ∧ hp = [⟨1, true, none, .ints .i64 os⟩, c0.varE false 2 3 4, c0.mapE false, c0.wayE false, c0.orpE false, ⟨66, false, none, .row (rowHd L)⟩]) ?_ ?_
  · unfold Ch.varE Ch.mapE Ch.wayE Ch.orpE
    refine ev_sound tokT (keep := fun _ => true) ?_
    (conv => whnf)
    (refine Turned.of [0, 1, 2, 3, 4, 5] [(0, .int .i64 (n : Int)), (1, .int .i64 most), (2, .sl 0 0 q (some os.length)), (9, .sl 5 0 (n + 1) none), (10, .ptr 1 0 0 0)] [⟨1, true, none, .ints .i64 os⟩, c0.varE false 2 3 4, c0.mapE false, c0.wayE false, c0.orpE false, ⟨66, false, none, .row (rowHd L)⟩] (by rfl) (by rfl) (by rfl) (by (repeat' (first | exact True.intro | exact rfl | refine And.intro ?_ ?_ | (simp [AV.ren, AV.rens, AObj.ren, Ent.ren, AV.inn, AV.inns, AObj.inn, *]; done)))) (by (repeat' (first | exact True.intro | exact rfl | refine And.intro ?_ ?_ | (simp [AV.ren, AV.rens, AObj.ren, Ent.ren, AV.inn, AV.inns, AObj.inn, *]; done)))) ?_)
    exact ⟨rfl, rfl⟩
  rintro fr hp ⟨rfl, rfl⟩
  unfold Ch.varE Ch.mapE Ch.wayE Ch.orpE
  refine AW.pre tokT (fun _ => true) ?_; (conv => whnf)
  refine AW.pre tokT (fun _ => true) ?_; (conv => whnf)
  (refine AW.turnL [0, 1, 2, 3, 4, 5, 6] [(0, .int .i64 (n : Int)), (1, .int .i64 most), (2, .sl 0 0 q (some os.length)), (9, .sl 5 0 (n + 1) none), (10, .ptr 1 0 0 0), (12, .int .i64 0), (13, .ptr 6 0 0 0)] [⟨1, true, none, .ints .i64 os⟩, c0.varE false 2 3 4, c0.mapE false, c0.wayE false, c0.orpE false, ⟨66, false, none, .row (rowHd L)⟩, ⟨21, false, none, .var [.bool false, .bool false, .bool false, .bool false, .bool false, .bool false, .bool false, .bool false, .bool false, .bool false, .bool false, .bool false, .bool false, .bool false, .bool false, .bool false, .bool false, .bool false, .bool false, .bool false, .bool false]⟩] (by rfl) (by rfl) (by rfl) (by (repeat' (first | exact True.intro | exact rfl | refine And.intro ?_ ?_ | (simp [AV.ren, AV.rens, AObj.ren, Ent.ren, AV.inn, AV.inns, AObj.inn, *]; done)))) (by (repeat' (first | exact True.intro | exact rfl | refine And.intro ?_ ?_ | (simp [AV.ren, AV.rens, AObj.ren, Ent.ren, AV.inn, AV.inns, AObj.inn, *]; done)))) ?_)
  refine AW.spread 6 21 (List.replicate 21 false) _ [(0, .int .i64 (n : Int)), (1, .int .i64 most), (2, .sl 0 0 q (some os.length)), (9, .sl 5 0 (n + 1) none), (10, .ptr 1 0 0 0), (12, .int .i64 0), (13, .ptr 7 0 0 0)] [⟨1, true, none, .ints .i64 os⟩, c0.varE false 2 3 4, c0.mapE false, c0.wayE false, c0.orpE false, ⟨66, false, none, .row (rowHd L)⟩, ⟨21, false, none, .gone⟩, ⟨1, false, none, .row (rowB (List.replicate 21 false))⟩] (show 1 ≤ 6 by omega) rfl rfl rfl rfl ?_
  unfold Ch.varE Ch.mapE Ch.wayE Ch.orpE
  (refine AW.turnL [0, 1, 2, 3, 4, 5, 7] [(0, .int .i64 (n : Int)), (1, .int .i64 most), (2, .sl 0 0 q (some os.length)), (9, .sl 5 0 (n + 1) none), (10, .ptr 1 0 0 0), (12, .int .i64 ((0 : Nat) : Int)), (13, .ptr 6 0 0 0)] [⟨1, true, none, .ints .i64 os⟩, c0.varE false 2 3 4, c0.mapE false, c0.wayE false, c0.orpE false, ⟨66, false, none, .row (rowHd L)⟩, ⟨1, false, none, .row (rowB (List.replicate 21 false))⟩] (by rfl) (by rfl) (by rfl) (by (repeat' (first | exact True.intro | exact rfl | refine And.intro ?_ ?_ | (simp [AV.ren, AV.rens, AObj.ren, Ent.ren, AV.inn, AV.inns, AObj.inn, *]; done)))) (by (repeat' (first | exact True.intro | exact rfl | refine And.intro ?_ ?_ | (simp [AV.ren, AV.rens, AObj.ren, Ent.ren, AV.inn, AV.inns, AObj.inn, *]; done)))) ?_)
  refine AW.cutT (fun fr hp => ∃ (c : Ch) (seen : List Bool) (w : Nat), ((∃ N, N ≤ q ∧ WaitC c n most seen w N) ∧ seen.length = 21) ∧ fr = [(0, .int .i64 (n : Int)), (1, .int .i64 most), (2, .sl 0 0 q (some os.length)), (9, .sl 5 0 (n + 1) none), (10, .ptr 1 0 0 0), (12, .int .i64 (w : Int)), (13, .ptr 6 0 0 0)] ∧ hp = [⟨1, true, none, .ints .i64 os⟩, c.varE false 2 3 4, c.mapE false, c.wayE false, c.orpE false, ⟨66, false, none, .row (rowHd L)⟩, ⟨1, false, none, .row (rowB seen)⟩]) ?_ ?_
  · unfold Ch.varE Ch.mapE Ch.wayE Ch.orpE
    refine AW.pre tokT (fun _ => true) ?_; (conv => whnf)
    refine AW.block ?_
    (refine AW.turnL [0, 1, 2, 3, 4, 5, 6] [(0, .int .i64 (n : Int)), (1, .int .i64 most), (2, .sl 0 0 q (some os.length)), (9, .sl 5 0 (n + 1) none), (10, .ptr 1 0 0 0), (12, .int .i64 ((0 : Nat) : Int)), (13, .ptr 6 0 0 0), (14, .int .i64 0)] [⟨1, true, none, .ints .i64 os⟩, c0.varE false 2 3 4, c0.mapE false, c0.wayE false, c0.orpE false, ⟨66, false, none, .row (rowHd L)⟩, ⟨1, false, none, .row (rowB (List.replicate 21 false))⟩] (by rfl) (by rfl) (by rfl) (by (repeat' (first | exact True.intro | exact rfl | refine And.intro ?_ ?_ | (simp [AV.ren, AV.rens, AObj.ren, Ent.ren, AV.inn, AV.inns, AObj.inn, *]; done)))) (by (repeat' (first | exact True.intro | exact rfl | refine And.intro ?_ ?_ | (simp [AV.ren, AV.rens, AObj.ren, Ent.ren, AV.inn, AV.inns, AObj.inn, *]; done)))) ?_)
    refine AW.loop (fun u fr hp => ∃ (i : Nat) (c : Ch) (seen : List Bool) (w : Nat), u = q - i ∧ i ≤ q ∧ ((∃ N, N ≤ i ∧ WaitC c n most seen w N) ∧ seen.length = 21) ∧ fr = [(0, .int .i64 (n : Int)), (1, .int .i64 most), (2, .sl 0 0 q (some os.length)), (9, .sl 5 0 (n + 1) none), (10, .ptr 1 0 0 0), (12, .int .i64 (w : Int)), (13, .ptr 6 0 0 0), (14, .int .i64 (i : Int))] ∧ hp = [⟨1, true, none, .ints .i64 os⟩, c.varE false 2 3 4, c.mapE false, c.wayE false, c.orpE false, ⟨66, false, none, .row (rowHd L)⟩, ⟨1, false, none, .row (rowB seen)⟩]) q ?_ ?_
    · exact ⟨0, c0, _, 0, by omega, by omega, ⟨⟨0, by omega, hwt0⟩, List.length_replicate⟩, rfl, rfl⟩
    · rintro u fr hp ⟨i, c, seen, w, rfl, hi, ⟨⟨N, hN, hwc⟩, hsl⟩, rfl, rfl⟩ -
      refine AW.post ?_
      unfold Ch.varE Ch.mapE Ch.wayE Ch.orpE
      refine AW.pre tokT (fun _ => true) ?_; (conv => whnf)
      by_cases hil : i < q ∧ 1 < n
      case neg =>
        by_cases hiq : i < q
        · rw [decide_eq_true (show (i : Int) < (q : Int) by omega)]
          (conv => whnf)
          rw [decide_eq_false (show ¬ (n : Int) > 1 by omega)]
          (conv => whnf)
          (refine Turned.of [0, 1, 2, 3, 4, 5, 6] [(0, .int .i64 (n : Int)), (1, .int .i64 most), (2, .sl 0 0 q (some os.length)), (9, .sl 5 0 (n + 1) none), (10, .ptr 1 0 0 0), (12, .int .i64 (w : Int)), (13, .ptr 6 0 0 0)] [⟨1, true, none, .ints .i64 os⟩, c.varE false 2 3 4, c.mapE false, c.wayE false, c.orpE false, ⟨66, false, none, .row (rowHd L)⟩, ⟨1, false, none, .row (rowB seen)⟩] (by rfl) (by rfl) (by rfl) (by (repeat' (first | exact True.intro | exact rfl | refine And.intro ?_ ?_ | (simp [AV.ren, AV.rens, AObj.ren, Ent.ren, AV.inn, AV.inns, AObj.inn, *]; done)))) (by (repeat' (first | exact True.intro | exact rfl | refine And.intro ?_ ?_ | (simp [AV.ren, AV.rens, AObj.ren, Ent.ren, AV.inn, AV.inns, AObj.inn, *]; done)))) ?_)
          exact ⟨c, seen, w, ⟨⟨N, by omega, hwc⟩, hsl⟩, rfl, rfl⟩
        · rw [decide_eq_false (show ¬ (i : Int) < (q : Int) by omega)]
          (conv => whnf)
          (refine Turned.of [0, 1, 2, 3, 4, 5, 6] [(0, .int .i64 (n : Int)), (1, .int .i64 most), (2, .sl 0 0 q (some os.length)), (9, .sl 5 0 (n + 1) none), (10, .ptr 1 0 0 0), (12, .int .i64 (w : Int)), (13, .ptr 6 0 0 0)] [⟨1, true, none, .ints .i64 os⟩, c.varE false 2 3 4, c.mapE false, c.wayE false, c.orpE false, ⟨66, false, none, .row (rowHd L)⟩, ⟨1, false, none, .row (rowB seen)⟩] (by rfl) (by rfl) (by rfl) (by (repeat' (first | exact True.intro | exact rfl | refine And.intro ?_ ?_ | (simp [AV.ren, AV.rens, AObj.ren, Ent.ren, AV.inn, AV.inns, AObj.inn, *]; done)))) (by (repeat' (first | exact True.intro | exact rfl | refine And.intro ?_ ?_ | (simp [AV.ren, AV.rens, AObj.ren, Ent.ren, AV.inn, AV.inns, AObj.inn, *]; done)))) ?_)
          exact ⟨c, seen, w, ⟨⟨N, by omega, hwc⟩, hsl⟩, rfl, rfl⟩
      rw [decide_eq_true (show (i : Int) < (q : Int) by omega)]
      (conv => whnf)
      rw [decide_eq_true (show (n : Int) > 1 by omega)]
      (conv => whnf)
      refine AW.seq ?_
      refine AW.block ?_
      obtain ⟨z, hz⟩ : ∃ z, os.getD (0 + (i : Int).toNat) 0 = z := ⟨_, rfl⟩
      have hro := round_ok z ((n - 1 : Nat) : Int) (by omega) (by omega)
      obtain ⟨r, hr⟩ : ∃ r : Nat, z % ((n - 1 : Nat) : Int) = (r : Int) := ⟨(z % ((n - 1 : Nat) : Int)).toNat, (Int.toNat_of_nonneg (Int.emod_nonneg _ (by omega))).symm⟩
      have hrl : r < n - 1 := by have := Int.emod_lt_of_pos z (show (0 : Int) < ((n - 1 : Nat) : Int) by omega); omega
      rw [hr] at hro
      obtain ⟨h, hh⟩ : ∃ h, L.getD (2 + r) default = h := ⟨_, rfl⟩
      have hrq : (rowHd L)[0 + (((2 + r) : Nat) : Int).toNat]? = some h.segs := by rw [Nat.zero_add, Int.toNat_natCast, ← hh]; exact hd_at L _ (by omega)
      have hhd : hdL L (2 + r) = h := hh
      have hw : h.wf := by rw [← hhd]; exact hLw _ (by omega)
      have hadd := add_ok c hwc.kok hwc.tree (by have := hwc.kok.sum; omega) h hw
      obtain ⟨c2, hc2⟩ : ∃ c2, (addC c h).1 = c2 := ⟨_, rfl⟩
      obtain ⟨E, hE⟩ : ∃ E, (addC c h).2.1 = E := ⟨_, rfl⟩
      obtain ⟨e, he⟩ : ∃ e, (addC c h).2.2 = e := ⟨_, rfl⟩
      obtain ⟨w1, w2, w3⟩ := hwA (2 + r) w N c seen hwc (by omega) (by omega) hsl
      rw [hhd] at w1 w2 w3
      obtain ⟨s, hs⟩ : ∃ s, seen.getD (2 + r) false = s := ⟨_, rfl⟩
      have hrs : (rowB seen)[0 + ((2 + r : Nat) : Int).toNat]? = some [.bool s] := by rw [Nat.zero_add, Int.toNat_natCast, ← hs]; exact rowB_at seen (by omega)
      rw [hs] at w1 w2 w3
      rw [hc2, hE, he] at hadd
      unfold Ch.varE Ch.mapE Ch.wayE Ch.orpE at hadd
      refine AW.cutT (fun fr hp => fr = [(0, .int .i64 (n : Int)), (1, .int .i64 most), (2, .sl 0 0 q (some os.length)), (9, .sl 5 0 (n + 1) none), (10, .ptr 1 0 0 0), (12, .int .i64 (w : Int)), (13, .ptr 6 0 0 0), (14, .int .i64 (i : Int)), (15, .int .i64 ((2 + r : Nat) : Int))] ∧ hp = [⟨1, true, none, .ints .i64 os⟩, c.varE false 2 3 4, c.mapE false, c.wayE false, c.orpE false, ⟨66, false, none, .row (rowHd L)⟩, ⟨1, false, none, .row (rowB seen)⟩]) ?_ ?_
      · unfold Ch.varE Ch.mapE Ch.wayE Ch.orpE
        refine ev_sound tokT (keep := fun _ => true) ?_
        ((conv => whnf); (repeat (((refine And.intro (by omega) ?_); (conv => whnf)))))
        rw [hz, show IntKind.i64.wrap ((n : Int) - 1) = ((n - 1 : Nat) : Int) by rw [IntWalk.i64_in _ (by omega)]; omega]
        refine AC.pure (v := .int .i64 (r : Int)) hro (by simp [AV.inns, AV.inn]) (by simp [AV.inn]) ?_
        (conv => whnf)
        rw [show IntKind.i64.wrap (2 + (r : Int)) = ((2 + r : Nat) : Int) by rw [IntWalk.i64_in _ (by omega)]; omega]
        (refine Turned.of [0, 1, 2, 3, 4, 5, 6] [(0, .int .i64 (n : Int)), (1, .int .i64 most), (2, .sl 0 0 q (some os.length)), (9, .sl 5 0 (n + 1) none), (10, .ptr 1 0 0 0), (12, .int .i64 (w : Int)), (13, .ptr 6 0 0 0), (14, .int .i64 (i : Int)), (15, .int .i64 ((2 + r : Nat) : Int))] [⟨1, true, none, .ints .i64 os⟩, c.varE false 2 3 4, c.mapE false, c.wayE false, c.orpE false, ⟨66, false, none, .row (rowHd L)⟩, ⟨1, false, none, .row (rowB seen)⟩] (by rfl) (by rfl) (by rfl) (by (repeat' (first | exact True.intro | exact rfl | refine And.intro ?_ ?_ | (simp [AV.ren, AV.rens, AObj.ren, Ent.ren, AV.inn, AV.inns, AObj.inn, *]; done)))) (by (repeat' (first | exact True.intro | exact rfl | refine And.intro ?_ ?_ | (simp [AV.ren, AV.rens, AObj.ren, Ent.ren, AV.inn, AV.inns, AObj.inn, *]; done)))) ?_)
        exact ⟨rfl, rfl⟩
      rintro fr hp ⟨rfl, rfl⟩
      refine AW.cutT (fun fr hp => fr = [(0, .int .i64 (n : Int)), (1, .int .i64 most), (2, .sl 0 0 q (some os.length)), (9, .sl 5 0 (n + 1) none), (10, .ptr 1 0 0 0), (12, .int .i64 (w : Int)), (13, .ptr 6 0 0 0), (14, .int .i64 (i : Int)), (15, .int .i64 ((2 + r : Nat) : Int)), (17, .int .i64 e)] ∧ hp = [⟨1, true, none, .ints .i64 os⟩, c2.varE false 2 3 4, c2.mapE false, c2.wayE false, c2.orpE false, ⟨66, false, none, .row (rowHd L)⟩, ⟨1, false, none, .row (rowB seen)⟩]) ?_ ?_
      · unfold Ch.varE Ch.mapE Ch.wayE Ch.orpE
        refine ev_sound tokT (keep := fun _ => true) ?_
        ((conv => whnf); (repeat (((refine And.intro (by omega) ?_); (conv => whnf)))))
        rw [hrq]
        (conv => whnf)
        refine AC.frame hadd [1, 2, 3, 4] (by (repeat' (first | exact True.intro | exact rfl | refine And.intro ?_ ?_ | (simp [AV.ren, AV.rens, AObj.ren, Ent.ren, AV.inn, AV.inns, AObj.inn, *]; done)))) (by rfl) (by (repeat' (first | exact True.intro | refine And.intro ?_ ?_ | (simp [AV.ren, AV.rens, AObj.ren, Ent.ren, AV.inn, AV.inns, AObj.inn, *]; done)))) (by rfl) ?_
        rintro r0 hp0 ⟨rfl, rfl⟩
        (conv => whnf)
        (refine Turned.of [0, 1, 2, 7, 8, 5, 6] [(0, .int .i64 (n : Int)), (1, .int .i64 most), (2, .sl 0 0 q (some os.length)), (9, .sl 5 0 (n + 1) none), (10, .ptr 1 0 0 0), (12, .int .i64 (w : Int)), (13, .ptr 6 0 0 0), (14, .int .i64 (i : Int)), (15, .int .i64 ((2 + r : Nat) : Int)), (17, .int .i64 e)] [⟨1, true, none, .ints .i64 os⟩, c2.varE false 2 3 4, c2.mapE false, c2.wayE false, c2.orpE false, ⟨66, false, none, .row (rowHd L)⟩, ⟨1, false, none, .row (rowB seen)⟩] (by rfl) (by rfl) (by rfl) (by (repeat' (first | exact True.intro | exact rfl | refine And.intro ?_ ?_ | (simp [AV.ren, AV.rens, AObj.ren, Ent.ren, AV.inn, AV.inns, AObj.inn, *]; done)))) (by (repeat' (first | exact True.intro | exact rfl | refine And.intro ?_ ?_ | (simp [AV.ren, AV.rens, AObj.ren, Ent.ren, AV.inn, AV.inns, AObj.inn, *]; done)))) ?_)
        exact ⟨rfl, rfl⟩
      rintro fr hp ⟨rfl, rfl⟩
      unfold Ch.varE Ch.mapE Ch.wayE Ch.orpE
      refine AW.block ?_
      refine AW.pre tokT (fun _ => true) ?_; ((conv => whnf); (repeat (((refine And.intro (by omega) ?_); (conv => whnf)))))
      rw [hrs]
      (conv => whnf)
      refine AW.condK ?_
      cases s with
      | true =>
        (conv => whnf)
        have hA := w1 rfl
        rw [hA] at hc2 he
        simp only [] at hc2 he
        subst hc2 he
        refine ev_sound tokT (keep := fun _ => true) ?_
        (conv => whnf)
        refine ev_sound tokT (keep := fun _ => true) ?_
        (conv => whnf)
        rw [IntWalk.i64_in ((i : Int) + 1) (by omega)]
        (refine Turned.of [0, 1, 2, 3, 4, 5, 6] [(0, .int .i64 (n : Int)), (1, .int .i64 most), (2, .sl 0 0 q (some os.length)), (9, .sl 5 0 (n + 1) none), (10, .ptr 1 0 0 0), (12, .int .i64 (w : Int)), (13, .ptr 6 0 0 0), (14, .int .i64 ((i + 1 : Nat) : Int))] [⟨1, true, none, .ints .i64 os⟩, c.varE false 2 3 4, c.mapE false, c.wayE false, c.orpE false, ⟨66, false, none, .row (rowHd L)⟩, ⟨1, false, none, .row (rowB seen)⟩] (by rfl) (by rfl) (by rfl) (by (repeat' (first | exact True.intro | exact rfl | refine And.intro ?_ ?_ | (simp [AV.ren, AV.rens, AObj.ren, Ent.ren, AV.inn, AV.inns, AObj.inn, *]; done)))) (by (repeat' (first | exact True.intro | exact rfl | refine And.intro ?_ ?_ | (simp [AV.ren, AV.rens, AObj.ren, Ent.ren, AV.inn, AV.inns, AObj.inn, *]; done)))) ?_)
        exact ⟨q - (i + 1), by omega, i + 1, c, seen, w, rfl, by omega, ⟨⟨N, by omega, hwc⟩, hsl⟩, rfl, rfl⟩
      | false =>
        (conv => whnf)
        refine AW.pre tokT (fun _ => true) ?_; (conv => whnf)
        by_cases hwm : most ≤ (w : Int)
        · rw [decide_eq_true (show (w : Int) ≥ most by omega)]
          have hA := w2 rfl hwm
          rw [hA] at hc2 he
          simp only [] at hc2 he
          subst hc2 he
          refine AW.condK ?_
          (conv => whnf)
          refine ev_sound tokT (keep := fun _ => true) ?_
          (conv => whnf)
          refine ev_sound tokT (keep := fun _ => true) ?_
          (conv => whnf)
          rw [IntWalk.i64_in ((i : Int) + 1) (by omega)]
          (refine Turned.of [0, 1, 2, 3, 4, 5, 6] [(0, .int .i64 (n : Int)), (1, .int .i64 most), (2, .sl 0 0 q (some os.length)), (9, .sl 5 0 (n + 1) none), (10, .ptr 1 0 0 0), (12, .int .i64 (w : Int)), (13, .ptr 6 0 0 0), (14, .int .i64 ((i + 1 : Nat) : Int))] [⟨1, true, none, .ints .i64 os⟩, c.varE false 2 3 4, c.mapE false, c.wayE false, c.orpE false, ⟨66, false, none, .row (rowHd L)⟩, ⟨1, false, none, .row (rowB seen)⟩] (by rfl) (by rfl) (by rfl) (by (repeat' (first | exact True.intro | exact rfl | refine And.intro ?_ ?_ | (simp [AV.ren, AV.rens, AObj.ren, Ent.ren, AV.inn, AV.inns, AObj.inn, *]; done)))) (by (repeat' (first | exact True.intro | exact rfl | refine And.intro ?_ ?_ | (simp [AV.ren, AV.rens, AObj.ren, Ent.ren, AV.inn, AV.inns, AObj.inn, *]; done)))) ?_)
          exact ⟨q - (i + 1), by omega, i + 1, c, seen, w, rfl, by omega, ⟨⟨N, by omega, hwc⟩, hsl⟩, rfl, rfl⟩
        · rw [decide_eq_false (show ¬ (w : Int) ≥ most by omega)]
          obtain ⟨e0, hw2⟩ := w3 rfl (by omega)
          rw [he] at e0
          rw [hc2] at hw2
          subst e0
          have hset : (rowB seen).set (0 + ((2 + r : Nat) : Int).toNat) [AV.bool true] = rowB (seen.set (2 + r) true) := by rw [Nat.zero_add, Int.toNat_natCast, rowB_set]
          have hwl : w ≤ 100 := by have h1 := hw2.kok.sum; have h2 := hw2.cnt; omega
          refine AW.condK ?_
          (conv => whnf)
          refine ev_sound tokT (keep := fun _ => true) ?_
          ((conv => whnf); (repeat (((refine And.intro (by omega) ?_); (conv => whnf)))))
          rw [hrs]
          (conv => whnf)
          rw [hset, IntWalk.i64_in ((w : Int) + 1) (by omega)]
          refine ev_sound tokT (keep := fun _ => true) ?_
          (conv => whnf)
          rw [IntWalk.i64_in ((i : Int) + 1) (by omega)]
          (refine Turned.of [0, 1, 2, 3, 4, 5, 6] [(0, .int .i64 (n : Int)), (1, .int .i64 most), (2, .sl 0 0 q (some os.length)), (9, .sl 5 0 (n + 1) none), (10, .ptr 1 0 0 0), (12, .int .i64 ((w + 1 : Nat) : Int)), (13, .ptr 6 0 0 0), (14, .int .i64 ((i + 1 : Nat) : Int))] [⟨1, true, none, .ints .i64 os⟩, c2.varE false 2 3 4, c2.mapE false, c2.wayE false, c2.orpE false, ⟨66, false, none, .row (rowHd L)⟩, ⟨1, false, none, .row (rowB (seen.set (2 + r) true))⟩] (by rfl) (by rfl) (by rfl) (by (repeat' (first | exact True.intro | exact rfl | refine And.intro ?_ ?_ | (simp [AV.ren, AV.rens, AObj.ren, Ent.ren, AV.inn, AV.inns, AObj.inn, *]; done)))) (by (repeat' (first | exact True.intro | exact rfl | refine And.intro ?_ ?_ | (simp [AV.ren, AV.rens, AObj.ren, Ent.ren, AV.inn, AV.inns, AObj.inn, *]; done)))) ?_)
          exact ⟨q - (i + 1), by omega, i + 1, c2, seen.set (2 + r) true, w + 1, rfl, by omega, ⟨⟨N + 1, by omega, hw2⟩, by rw [List.length_set]; exact hsl⟩, rfl, rfl⟩
  rintro fr hp ⟨c, seen, w, ⟨⟨N, hN, hwc⟩, hsl⟩, rfl, rfl⟩
  have hcs := hwc.kok.sum
  have horp := orphans_ok c (by omega)
  have hcnt := hwc.cnt
  unfold Ch.varE Ch.mapE Ch.wayE Ch.orpE at horp
  refine AW.cutT (fun fr hp => fr = [(0, .int .i64 (n : Int)), (1, .int .i64 most), (2, .sl 0 0 q (some os.length)), (9, .sl 5 0 (n + 1) none), (10, .ptr 1 0 0 0), (12, .int .i64 (w : Int)), (13, .ptr 6 0 0 0)] ∧ hp = [⟨1, true, none, .ints .i64 os⟩, c.varE false 2 3 4, c.mapE false, c.wayE false, c.orpE false, ⟨66, false, none, .row (rowHd L)⟩, ⟨1, false, none, .row (rowB seen)⟩]) ?_ ?_
  · unfold Ch.varE Ch.mapE Ch.wayE Ch.orpE
    refine ev_sound tokT (keep := fun _ => true) ?_
    (conv => whnf)
    refine AC.frame horp [1, 2, 3, 4] (by (repeat' (first | exact True.intro | exact rfl | refine And.intro ?_ ?_ | (simp [AV.ren, AV.rens, AObj.ren, Ent.ren, AV.inn, AV.inns, AObj.inn, *]; done)))) (by rfl) (by (repeat' (first | exact True.intro | refine And.intro ?_ ?_ | (simp [AV.ren, AV.rens, AObj.ren, Ent.ren, AV.inn, AV.inns, AObj.inn, *]; done)))) (by rfl) ?_
    rintro r0 hp0 ⟨rfl, rfl⟩
    (conv => whnf)
    rw [show ((c.orphans.length : Int) != (w : Int)) = false by rw [hcnt]; simp]
    (conv => whnf)
    (refine Turned.of [0, 1, 2, 3, 4, 5, 6] [(0, .int .i64 (n : Int)), (1, .int .i64 most), (2, .sl 0 0 q (some os.length)), (9, .sl 5 0 (n + 1) none), (10, .ptr 1 0 0 0), (12, .int .i64 (w : Int)), (13, .ptr 6 0 0 0)] [⟨1, true, none, .ints .i64 os⟩, c.varE false 2 3 4, c.mapE false, c.wayE false, c.orpE false, ⟨66, false, none, .row (rowHd L)⟩, ⟨1, false, none, .row (rowB seen)⟩] (by rfl) (by rfl) (by rfl) (by (repeat' (first | exact True.intro | exact rfl | refine And.intro ?_ ?_ | (simp [AV.ren, AV.rens, AObj.ren, Ent.ren, AV.inn, AV.inns, AObj.inn, *]; done)))) (by (repeat' (first | exact True.intro | exact rfl | refine And.intro ?_ ?_ | (simp [AV.ren, AV.rens, AObj.ren, Ent.ren, AV.inn, AV.inns, AObj.inn, *]; done)))) ?_)
    exact ⟨rfl, rfl⟩
  rintro fr hp ⟨rfl, rfl⟩
  obtain ⟨h, hh⟩ : ∃ h, L.getD 1 default = h := ⟨_, rfl⟩
  have hrq : (rowHd L)[0 + ((1 : Nat) : Int).toNat]? = some h.segs := by rw [Nat.zero_add, Int.toNat_natCast, ← hh]; exact hd_at L _ (by omega)
  have hhd : hdL L 1 = h := hh
  have hw : h.wf := by rw [← hhd]; exact hLw _ (by omega)
  have hadd := add_ok c hwc.kok hwc.tree (by have := hwc.kok.sum; omega) h hw
  obtain ⟨c2, hc2⟩ : ∃ c2, (addC c h).1 = c2 := ⟨_, rfl⟩
  obtain ⟨E, hE⟩ : ∃ E, (addC c h).2.1 = E := ⟨_, rfl⟩
  obtain ⟨e, he⟩ : ∃ e, (addC c h).2.2 = e := ⟨_, rfl⟩
  have hrq1 : (rowHd L)[0 + Int.toNat 1]? = some h.segs := hrq
  obtain ⟨u, hu1, hun, hus, hst⟩ := run_ex (fun j => seen.getD j false) n hn.1
  obtain ⟨e0, eE, eW, eO, k2⟩ := hwE u w N c seen hwc (by omega) ⟨hu1, hun⟩ hus hst
  rw [hhd] at e0 eE eW eO k2
  rw [he] at e0
  subst e0
  rw [hE] at eE
  rw [hc2] at eW eO k2
  rw [hc2, hE, he] at hadd
  unfold Ch.varE Ch.mapE Ch.wayE Ch.orpE at hadd
  refine AW.cutT (fun fr hp => fr = [(0, .int .i64 (n : Int)), (1, .int .i64 most), (2, .sl 0 0 q (some os.length)), (9, .sl 5 0 (n + 1) none), (10, .ptr 1 0 0 0), (12, .int .i64 (w : Int)), (13, .ptr 6 0 0 0), (18, .sl 7 0 E.length none), (19, .int .i64 0)] ∧ hp = [⟨1, true, none, .ints .i64 os⟩, c2.varE false 2 3 4, c2.mapE false, c2.wayE false, c2.orpE false, ⟨66, false, none, .row (rowHd L)⟩, ⟨1, false, none, .row (rowB seen)⟩, ⟨34, false, none, .row (rowE E)⟩]) ?_ ?_
  · unfold Ch.varE Ch.mapE Ch.wayE Ch.orpE
    refine ev_sound tokT (keep := fun _ => true) ?_
    ((conv => whnf); (repeat (((refine And.intro (by omega) ?_); (conv => whnf)))))
    rw [hrq1]
    (conv => whnf)
    refine AC.frame hadd [1, 2, 3, 4] (by (repeat' (first | exact True.intro | exact rfl | refine And.intro ?_ ?_ | (simp [AV.ren, AV.rens, AObj.ren, Ent.ren, AV.inn, AV.inns, AObj.inn, *]; done)))) (by rfl) (by (repeat' (first | exact True.intro | refine And.intro ?_ ?_ | (simp [AV.ren, AV.rens, AObj.ren, Ent.ren, AV.inn, AV.inns, AObj.inn, *]; done)))) (by rfl) ?_
    rintro r0 hp0 ⟨rfl, rfl⟩
    (conv => whnf)
    (refine Turned.of [0, 1, 2, 7, 8, 5, 6, 9] [(0, .int .i64 (n : Int)), (1, .int .i64 most), (2, .sl 0 0 q (some os.length)), (9, .sl 5 0 (n + 1) none), (10, .ptr 1 0 0 0), (12, .int .i64 (w : Int)), (13, .ptr 6 0 0 0), (18, .sl 7 0 E.length none), (19, .int .i64 0)] [⟨1, true, none, .ints .i64 os⟩, c2.varE false 2 3 4, c2.mapE false, c2.wayE false, c2.orpE false, ⟨66, false, none, .row (rowHd L)⟩, ⟨1, false, none, .row (rowB seen)⟩, ⟨34, false, none, .row (rowE E)⟩] (by rfl) (by rfl) (by rfl) (by (repeat' (first | exact True.intro | exact rfl | refine And.intro ?_ ?_ | (simp [AV.ren, AV.rens, AObj.ren, Ent.ren, AV.inn, AV.inns, AObj.inn, *]; done)))) (by (repeat' (first | exact True.intro | exact rfl | refine And.intro ?_ ?_ | (simp [AV.ren, AV.rens, AObj.ren, Ent.ren, AV.inn, AV.inns, AObj.inn, *]; done)))) ?_)
    exact ⟨rfl, rfl⟩
  rintro fr hp ⟨rfl, rfl⟩
  unfold Ch.varE Ch.mapE Ch.wayE Ch.orpE
  refine AW.pre tokT (fun _ => true) ?_; (conv => whnf)
  refine AW.cutT (fun fr hp => fr = [(0, .int .i64 (n : Int)), (1, .int .i64 most), (2, .sl 0 0 q (some os.length)), (9, .sl 5 0 (n + 1) none), (10, .ptr 1 0 0 0), (12, .int .i64 (w : Int)), (13, .ptr 6 0 0 0), (18, .sl 7 0 E.length none), (19, .int .i64 0), (20, .int .i64 (u : Int))] ∧ hp = [⟨1, true, none, .ints .i64 os⟩, c2.varE false 2 3 4, c2.mapE false, c2.wayE false, c2.orpE false, ⟨66, false, none, .row (rowHd L)⟩, ⟨1, false, none, .row (rowB seen)⟩, ⟨34, false, none, .row (rowE E)⟩]) ?_ ?_
  · refine AW.block ?_
    (refine AW.turnL [0, 1, 2, 3, 4, 5, 6, 7] [(0, .int .i64 (n : Int)), (1, .int .i64 most), (2, .sl 0 0 q (some os.length)), (9, .sl 5 0 (n + 1) none), (10, .ptr 1 0 0 0), (12, .int .i64 (w : Int)), (13, .ptr 6 0 0 0), (18, .sl 7 0 E.length none), (19, .int .i64 0), (20, .int .i64 ((1 : Nat) : Int))] [⟨1, true, none, .ints .i64 os⟩, c2.varE false 2 3 4, c2.mapE false, c2.wayE false, c2.orpE false, ⟨66, false, none, .row (rowHd L)⟩, ⟨1, false, none, .row (rowB seen)⟩, ⟨34, false, none, .row (rowE E)⟩] (by rfl) (by rfl) (by rfl) (by (repeat' (first | exact True.intro | exact rfl | refine And.intro ?_ ?_ | (simp [AV.ren, AV.rens, AObj.ren, Ent.ren, AV.inn, AV.inns, AObj.inn, *]; done)))) (by (repeat' (first | exact True.intro | exact rfl | refine And.intro ?_ ?_ | (simp [AV.ren, AV.rens, AObj.ren, Ent.ren, AV.inn, AV.inns, AObj.inn, *]; done)))) ?_)
    refine AW.loop (fun z fr hp => ∃ v : Nat, z = u - v ∧ 1 ≤ v ∧ v ≤ u ∧ fr = [(0, .int .i64 (n : Int)), (1, .int .i64 most), (2, .sl 0 0 q (some os.length)), (9, .sl 5 0 (n + 1) none), (10, .ptr 1 0 0 0), (12, .int .i64 (w : Int)), (13, .ptr 6 0 0 0), (18, .sl 7 0 E.length none), (19, .int .i64 0), (20, .int .i64 (v : Int))] ∧ hp = [⟨1, true, none, .ints .i64 os⟩, c2.varE false 2 3 4, c2.mapE false, c2.wayE false, c2.orpE false, ⟨66, false, none, .row (rowHd L)⟩, ⟨1, false, none, .row (rowB seen)⟩, ⟨34, false, none, .row (rowE E)⟩]) (u - 1) ?_ ?_
    · exact ⟨1, rfl, Nat.le_refl 1, hu1, rfl, rfl⟩
    · rintro z fr hp ⟨v, rfl, hv1, hvu, rfl, rfl⟩ -
      refine AW.post ?_
      unfold Ch.varE Ch.mapE Ch.wayE Ch.orpE
      refine AW.pre tokT (fun _ => true) ?_; (conv => whnf)
      have hwv : IntKind.i64.wrap ((v : Int) + 1) = ((v + 1 : Nat) : Int) := by rw [IntWalk.i64_in _ (by omega)]; omega
      by_cases hvn : v < n
      · have hrs : (rowB seen)[0 + ((v + 1 : Nat) : Int).toNat]? = some [.bool (seen.getD (v + 1) false)] := by rw [Nat.zero_add, Int.toNat_natCast]; exact rowB_at seen (by omega)
        rw [decide_eq_true (show (v : Int) < (n : Int) by omega)]
        ((conv => whnf); (repeat (((refine And.intro (by omega) ?_); (conv => whnf)))))
        -- markL
        rw [hwv, hrs]
        (conv => whnf)
        rcases Nat.lt_or_ge v u with hvu2 | hvu2
        · have hsv : seen.getD (v + 1) false = true := hus (v + 1) (by omega) (by omega)
          rw [hsv]
          (conv => whnf)
          refine ev_sound tokT (keep := fun _ => true) ?_
          (conv => whnf)
          rw [hwv]
          (refine Turned.of [0, 1, 2, 3, 4, 5, 6, 7] [(0, .int .i64 (n : Int)), (1, .int .i64 most), (2, .sl 0 0 q (some os.length)), (9, .sl 5 0 (n + 1) none), (10, .ptr 1 0 0 0), (12, .int .i64 (w : Int)), (13, .ptr 6 0 0 0), (18, .sl 7 0 E.length none), (19, .int .i64 0), (20, .int .i64 ((v + 1 : Nat) : Int))] [⟨1, true, none, .ints .i64 os⟩, c2.varE false 2 3 4, c2.mapE false, c2.wayE false, c2.orpE false, ⟨66, false, none, .row (rowHd L)⟩, ⟨1, false, none, .row (rowB seen)⟩, ⟨34, false, none, .row (rowE E)⟩] (by rfl) (by rfl) (by rfl) (by (repeat' (first | exact True.intro | exact rfl | refine And.intro ?_ ?_ | (simp [AV.ren, AV.rens, AObj.ren, Ent.ren, AV.inn, AV.inns, AObj.inn, *]; done)))) (by (repeat' (first | exact True.intro | exact rfl | refine And.intro ?_ ?_ | (simp [AV.ren, AV.rens, AObj.ren, Ent.ren, AV.inn, AV.inns, AObj.inn, *]; done)))) ?_)
          exact ⟨u - (v + 1), by omega, v + 1, rfl, by omega, by omega, rfl, rfl⟩
        · have hvu3 : v = u := by omega
          have hsv : seen.getD (v + 1) false = false := by rw [hvu3]; exact hst (by omega)
          rw [hsv]
          (conv => whnf)
          rw [hvu3]
          (refine Turned.of [0, 1, 2, 3, 4, 5, 6, 7] [(0, .int .i64 (n : Int)), (1, .int .i64 most), (2, .sl 0 0 q (some os.length)), (9, .sl 5 0 (n + 1) none), (10, .ptr 1 0 0 0), (12, .int .i64 (w : Int)), (13, .ptr 6 0 0 0), (18, .sl 7 0 E.length none), (19, .int .i64 0), (20, .int .i64 (u : Int))] [⟨1, true, none, .ints .i64 os⟩, c2.varE false 2 3 4, c2.mapE false, c2.wayE false, c2.orpE false, ⟨66, false, none, .row (rowHd L)⟩, ⟨1, false, none, .row (rowB seen)⟩, ⟨34, false, none, .row (rowE E)⟩] (by rfl) (by rfl) (by rfl) (by (repeat' (first | exact True.intro | exact rfl | refine And.intro ?_ ?_ | (simp [AV.ren, AV.rens, AObj.ren, Ent.ren, AV.inn, AV.inns, AObj.inn, *]; done)))) (by (repeat' (first | exact True.intro | exact rfl | refine And.intro ?_ ?_ | (simp [AV.ren, AV.rens, AObj.ren, Ent.ren, AV.inn, AV.inns, AObj.inn, *]; done)))) ?_)
          exact ⟨rfl, rfl⟩
      · rw [decide_eq_false (show ¬ (v : Int) < (n : Int) by omega)]
        (conv => whnf)
        have : v = u := by omega
        subst this
        (refine Turned.of [0, 1, 2, 3, 4, 5, 6, 7] [(0, .int .i64 (n : Int)), (1, .int .i64 most), (2, .sl 0 0 q (some os.length)), (9, .sl 5 0 (n + 1) none), (10, .ptr 1 0 0 0), (12, .int .i64 (w : Int)), (13, .ptr 6 0 0 0), (18, .sl 7 0 E.length none), (19, .int .i64 0), (20, .int .i64 (v : Int))] [⟨1, true, none, .ints .i64 os⟩, c2.varE false 2 3 4, c2.mapE false, c2.wayE false, c2.orpE false, ⟨66, false, none, .row (rowHd L)⟩, ⟨1, false, none, .row (rowB seen)⟩, ⟨34, false, none, .row (rowE E)⟩] (by rfl) (by rfl) (by rfl) (by (repeat' (first | exact True.intro | exact rfl | refine And.intro ?_ ?_ | (simp [AV.ren, AV.rens, AObj.ren, Ent.ren, AV.inn, AV.inns, AObj.inn, *]; done)))) (by (repeat' (first | exact True.intro | exact rfl | refine And.intro ?_ ?_ | (simp [AV.ren, AV.rens, AObj.ren, Ent.ren, AV.inn, AV.inns, AObj.inn, *]; done)))) ?_)
        exact ⟨rfl, rfl⟩
  rintro fr hp ⟨rfl, rfl⟩
  have htip := tip_ok c2 k2.way.1 k2.wayn k2.lens
  have horp2 := orphans_ok c2 (by omega)
  unfold Ch.varE Ch.mapE Ch.wayE Ch.orpE at htip horp2
  refine AW.cutT (fun fr hp => fr = [(0, .int .i64 (n : Int)), (1, .int .i64 most), (2, .sl 0 0 q (some os.length)), (9, .sl 5 0 (n + 1) none), (10, .ptr 1 0 0 0), (12, .int .i64 (w : Int)), (13, .ptr 6 0 0 0), (18, .sl 7 0 E.length none), (19, .int .i64 0), (20, .int .i64 (u : Int)), (21, .ptr 8 0 0 0), (22, .int .i64 ((c2.way.length : Int) - 1))] ∧ hp = [⟨1, true, none, .ints .i64 os⟩, c2.varE false 2 3 4, c2.mapE false, c2.wayE false, c2.orpE false, ⟨66, false, none, .row (rowHd L)⟩, ⟨1, false, none, .row (rowB seen)⟩, ⟨34, false, none, .row (rowE E)⟩, ⟨32, false, none, .var [.ints .u8 32 c2.tip]⟩]) ?_ ?_
  · unfold Ch.varE Ch.mapE Ch.wayE Ch.orpE
    refine ev_sound tokT (keep := fun _ => true) ?_
    (conv => whnf)
    refine AC.frame htip [1, 2, 3, 4] (by (repeat' (first | exact True.intro | exact rfl | refine And.intro ?_ ?_ | (simp [AV.ren, AV.rens, AObj.ren, Ent.ren, AV.inn, AV.inns, AObj.inn, *]; done)))) (by rfl) (by (repeat' (first | exact True.intro | refine And.intro ?_ ?_ | (simp [AV.ren, AV.rens, AObj.ren, Ent.ren, AV.inn, AV.inns, AObj.inn, *]; done)))) (by rfl) ?_
    rintro r0 hp0 ⟨rfl, rfl⟩
    (conv => whnf)
    (refine Turned.of [0, 1, 2, 3, 4, 5, 6, 7, 8] [(0, .int .i64 (n : Int)), (1, .int .i64 most), (2, .sl 0 0 q (some os.length)), (9, .sl 5 0 (n + 1) none), (10, .ptr 1 0 0 0), (12, .int .i64 (w : Int)), (13, .ptr 6 0 0 0), (18, .sl 7 0 E.length none), (19, .int .i64 0), (20, .int .i64 (u : Int)), (21, .ptr 8 0 0 0), (22, .int .i64 ((c2.way.length : Int) - 1))] [⟨1, true, none, .ints .i64 os⟩, c2.varE false 2 3 4, c2.mapE false, c2.wayE false, c2.orpE false, ⟨66, false, none, .row (rowHd L)⟩, ⟨1, false, none, .row (rowB seen)⟩, ⟨34, false, none, .row (rowE E)⟩, ⟨32, false, none, .var [.ints .u8 32 c2.tip]⟩] (by rfl) (by rfl) (by rfl) (by (repeat' (first | exact True.intro | exact rfl | refine And.intro ?_ ?_ | (simp [AV.ren, AV.rens, AObj.ren, Ent.ren, AV.inn, AV.inns, AObj.inn, *]; done)))) (by (repeat' (first | exact True.intro | exact rfl | refine And.intro ?_ ?_ | (simp [AV.ren, AV.rens, AObj.ren, Ent.ren, AV.inn, AV.inns, AObj.inn, *]; done)))) ?_)
    exact ⟨rfl, rfl⟩
  rintro fr hp ⟨rfl, rfl⟩
  unfold Ch.varE Ch.mapE Ch.wayE Ch.orpE
  refine ev_sound tokT (keep := fun _ => true) ?_
  (conv => whnf)
  rw [show ((E.length : Int) == (u : Int)) = true by rw [eE]; simp]
  (conv => whnf)
  rw [show ((c2.way.length : Int) - 1 == (u : Int)) = true by rw [eW]; simp]
  (conv => whnf)
  refine AC.frame horp2 [1, 2, 3, 4] (by (repeat' (first | exact True.intro | exact rfl | refine And.intro ?_ ?_ | (simp [AV.ren, AV.rens, AObj.ren, Ent.ren, AV.inn, AV.inns, AObj.inn, *]; done)))) (by rfl) (by (repeat' (first | exact True.intro | refine And.intro ?_ ?_ | (simp [AV.ren, AV.rens, AObj.ren, Ent.ren, AV.inn, AV.inns, AObj.inn, *]; done)))) (by rfl) ?_
  rintro r0 hp0 ⟨rfl, rfl⟩
  (conv => whnf)
  rw [IntWalk.i64_in ((u : Int) - 1) (by omega), IntWalk.i64_in ((w : Int) - ((u : Int) - 1)) (by omega), show ((c2.orphans.length : Int) == (w : Int) - ((u : Int) - 1)) = true from beq_iff_eq.2 (by omega)]
  (conv => whnf)
  refine AC.pure (v := .bool true) haw (by simp [AV.inns]) (by simp [AV.inn]) ?_
  (conv => whnf)
  (refine Left.of [0] (.bool true) [⟨1, true, none, .ints .i64 os⟩] (by rfl) (by rfl) (by rfl) (by (repeat' (first | exact True.intro | exact rfl | refine And.intro ?_ ?_))) (by rfl) (by (repeat' (first | exact True.intro | exact rfl | refine And.intro ?_ ?_))) ?_)
  rfl
end Go.Aw
