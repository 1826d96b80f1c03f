/-
  AwCh30: ChainForgets: the walk. Own work.
-/
import Derived.Test.YtdababcblhbpeaaAwCh29
import Derived.Test.YtdababcblhbpeaaAwCh20
import Derived.Test.YtdababcblhbpeaaM4
set_option linter.unusedVariables false
set_option linter.unusedSimpArgs false
set_option maxRecDepth 20000
set_option maxHeartbeats 4000000
open Go.Proofs
namespace Go.Aw

theorem forgets_law (k n0 f0 : Int) :
    AC Try.prog 17 [.int .i64 k, .int .i64 n0, .int .i64 f0] [] (fun r hp' => r = .bool true) := by
  refine AC.left (AC.body tokT Try.func17 rfl rfl rfl (by decide) (by rfl) ?_)
  have haw := awake_ok
  refine AW.pre tokT (fun _ => true) ?_; (conv => whnf)
  refine AW.cutT (fun fr hp => (1 ≤ k ∧ k ≤ 20 ∧ 1 ≤ n0 ∧ n0 ≤ 40 ∧ 0 ≤ f0 ∧ f0 < n0) ∧ fr = [(0, .int .i64 k), (1, .int .i64 n0), (2, .int .i64 f0)] ∧ hp = []) ?_ ?_
  · refine AW.cutT (fun fr hp => ∃ b, (b = false → 1 ≤ k ∧ k ≤ 20 ∧ 1 ≤ n0 ∧ n0 ≤ 40 ∧ 0 ≤ f0 ∧ f0 < n0) ∧ fr = [(0, .int .i64 k), (1, .int .i64 n0), (2, .int .i64 f0), (39, .bool b)] ∧ hp = []) ?_ ?_
    · refine ev_sound tokT (keep := fun _ => true) ?_
      (conv => whnf); (cases g1 : (decide (k < 1) : Bool) <;> (try simp only [beq_iff_eq, beq_eq_false_iff_ne, ne_eq, decide_eq_true_eq, decide_eq_false_iff_not, bne_iff_ne, bne_eq_false_iff_eq, Bool.not_eq_true, Bool.not_eq_false, gt_iff_lt, ge_iff_le] at g1) <;> (try (exfalso; omega)))
      case' true =>
        (conv => whnf)
        (refine Turned.of [] [(0, .int .i64 k), (1, .int .i64 n0), (2, .int .i64 f0), (39, .bool true)] [] (by rfl) (by rfl) (by rfl) (by (repeat' (first | exact True.intro | exact rfl | refine And.intro ?_ ?_))) (by (repeat' (first | exact True.intro | exact rfl | refine And.intro ?_ ?_))) ?_)
        exact ⟨true, fun h => (by cases h), rfl, rfl⟩
      (conv => whnf); (cases g2 : (decide (k > 20) : Bool) <;> (try simp only [beq_iff_eq, beq_eq_false_iff_ne, ne_eq, decide_eq_true_eq, decide_eq_false_iff_not, bne_iff_ne, bne_eq_false_iff_eq, Bool.not_eq_true, Bool.not_eq_false, gt_iff_lt, ge_iff_le] at g2) <;> (try (exfalso; omega)))
      case' true =>
        (conv => whnf)
        (refine Turned.of [] [(0, .int .i64 k), (1, .int .i64 n0), (2, .int .i64 f0), (39, .bool true)] [] (by rfl) (by rfl) (by rfl) (by (repeat' (first | exact True.intro | exact rfl | refine And.intro ?_ ?_))) (by (repeat' (first | exact True.intro | exact rfl | refine And.intro ?_ ?_))) ?_)
        exact ⟨true, fun h => (by cases h), rfl, rfl⟩
      (conv => whnf); (cases g3 : (decide (n0 < 1) : Bool) <;> (try simp only [beq_iff_eq, beq_eq_false_iff_ne, ne_eq, decide_eq_true_eq, decide_eq_false_iff_not, bne_iff_ne, bne_eq_false_iff_eq, Bool.not_eq_true, Bool.not_eq_false, gt_iff_lt, ge_iff_le] at g3) <;> (try (exfalso; omega)))
      case' true =>
        (conv => whnf)
        (refine Turned.of [] [(0, .int .i64 k), (1, .int .i64 n0), (2, .int .i64 f0), (39, .bool true)] [] (by rfl) (by rfl) (by rfl) (by (repeat' (first | exact True.intro | exact rfl | refine And.intro ?_ ?_))) (by (repeat' (first | exact True.intro | exact rfl | refine And.intro ?_ ?_))) ?_)
        exact ⟨true, fun h => (by cases h), rfl, rfl⟩
      (conv => whnf); (cases g4 : (decide (n0 > 40) : Bool) <;> (try simp only [beq_iff_eq, beq_eq_false_iff_ne, ne_eq, decide_eq_true_eq, decide_eq_false_iff_not, bne_iff_ne, bne_eq_false_iff_eq, Bool.not_eq_true, Bool.not_eq_false, gt_iff_lt, ge_iff_le] at g4) <;> (try (exfalso; omega)))
      case' true =>
        (conv => whnf)
        (refine Turned.of [] [(0, .int .i64 k), (1, .int .i64 n0), (2, .int .i64 f0), (39, .bool true)] [] (by rfl) (by rfl) (by rfl) (by (repeat' (first | exact True.intro | exact rfl | refine And.intro ?_ ?_))) (by (repeat' (first | exact True.intro | exact rfl | refine And.intro ?_ ?_))) ?_)
        exact ⟨true, fun h => (by cases h), rfl, rfl⟩
      (conv => whnf); (cases g5 : (decide (f0 < 0) : Bool) <;> (try simp only [beq_iff_eq, beq_eq_false_iff_ne, ne_eq, decide_eq_true_eq, decide_eq_false_iff_not, bne_iff_ne, bne_eq_false_iff_eq, Bool.not_eq_true, Bool.not_eq_false, gt_iff_lt, ge_iff_le] at g5) <;> (try (exfalso; omega)))
      case' true =>
        (conv => whnf)
        (refine Turned.of [] [(0, .int .i64 k), (1, .int .i64 n0), (2, .int .i64 f0), (39, .bool true)] [] (by rfl) (by rfl) (by rfl) (by (repeat' (first | exact True.intro | exact rfl | refine And.intro ?_ ?_))) (by (repeat' (first | exact True.intro | exact rfl | refine And.intro ?_ ?_))) ?_)
        exact ⟨true, fun h => (by cases h), rfl, rfl⟩
      (conv => whnf)
      (refine Turned.of [] [(0, .int .i64 k), (1, .int .i64 n0), (2, .int .i64 f0), (39, .bool (decide (f0 ≥ n0)))] [] (by rfl) (by rfl) (by rfl) (by (repeat' (first | exact True.intro | exact rfl | refine And.intro ?_ ?_))) (by (repeat' (first | exact True.intro | exact rfl | refine And.intro ?_ ?_))) ?_)
      exact ⟨_, fun h => ⟨by omega, by omega, by omega, by omega, by omega, by have := of_decide_eq_false h; omega⟩, rfl, rfl⟩
    rintro fr hp ⟨b, hb, rfl, rfl⟩
    refine AW.condK ?_
    (conv => whnf)
    cases b with
    | true =>
      (conv => whnf)
      refine AW.pre tokT (fun _ => true) ?_; (conv => whnf)
      refine AC.pure (v := .bool true) haw (by simp [AV.inns]) (by simp [AV.inn]) ?_
      (conv => whnf)
      refine ev_sound tokT (keep := fun _ => true) ?_
      (conv => whnf)
      (refine Left.of [] (.bool true) [] (by rfl) (by rfl) (by rfl) (by (repeat' (exact True.intro))) (by rfl) (by (repeat' (exact True.intro))) ?_)
      rfl
    | false =>
      refine ev_sound tokT (keep := fun _ => true) ?_
      (conv => whnf)
      (refine Turned.of [] [(0, .int .i64 k), (1, .int .i64 n0), (2, .int .i64 f0)] [] (by rfl) (by rfl) (by rfl) (by (repeat' (first | exact True.intro | exact rfl | refine And.intro ?_ ?_))) (by (repeat' (first | exact True.intro | exact rfl | refine And.intro ?_ ?_))) ?_)
      exact ⟨hb rfl, rfl, rfl⟩
  rintro fr hp ⟨⟨hk1, hk2, hn1, hn2, hf1, hf2⟩, rfl, rfl⟩
  obtain ⟨n, rfl⟩ := Int.eq_ofNat_of_zero_le (show 0 ≤ n0 by omega)
  obtain ⟨f, rfl⟩ := Int.eq_ofNat_of_zero_le hf1
  have hn40 : n ≤ 40 := by omega
  have hfn : f < n := by omega
  refine AW.pre tokT (fun _ => true) ?_; (conv => whnf)
  refine AW.nils [7] 2 (.row []) _ _ rfl rfl rfl ?_
  refine AW.cutT (fun fr hp => fr = [(0, .int .i64 k), (1, .int .i64 (n : Int)), (2, .int .i64 (f : Int)), (7, .sl 0 0 n none)] ∧ hp = [⟨2, false, none, .row (rowMd (mline 2 n))⟩]) ?_ ?_
  · refine AW.pre tokT (fun _ => true) ?_; (conv => whnf)
    (refine AW.turnL [0] [(0, .int .i64 k), (1, .int .i64 (n : Int)), (2, .int .i64 (f : Int)), (7, .sl 0 0 0 none), (8, .int .i64 0)] [⟨2, false, none, .row (rowMd (mline 2 0))⟩] (by rfl) (by rfl) (by rfl) (by (repeat' (first | exact True.intro | exact rfl | refine And.intro ?_ ?_ | (simp [AV.ren, AV.rens, AObj.ren, Ent.ren, AV.inn, AV.inns, AObj.inn, *]; done)))) (by (repeat' (first | exact True.intro | exact rfl | refine And.intro ?_ ?_ | (simp [AV.ren, AV.rens, AObj.ren, Ent.ren, AV.inn, AV.inns, AObj.inn, *]; done)))) ?_)
    refine AW.block ?_
    refine AW.loop (fun u fr hp => ∃ i : Nat, u = n - i ∧ i ≤ n ∧ fr = [(0, .int .i64 k), (1, .int .i64 (n : Int)), (2, .int .i64 (f : Int)), (7, .sl 0 0 i none), (8, .int .i64 (i : Int))] ∧ hp = [⟨2, false, none, .row (rowMd (mline 2 i))⟩]) n ?_ ?_
    · exact ⟨0, by omega, by omega, rfl, rfl⟩
    · rintro u fr hp ⟨i, rfl, hi, rfl, rfl⟩ -
      refine AW.post ?_
      refine AW.pre tokT (fun _ => true) ?_; (conv => whnf)
      by_cases hil : i < n
      case neg =>
        rw [decide_eq_false (show ¬ (i : Int) < (n : Int) by omega)]
        (conv => whnf)
        have hie : n = i := by omega
        subst hie
        (refine Turned.of [0] [(0, .int .i64 k), (1, .int .i64 (n : Int)), (2, .int .i64 (f : Int)), (7, .sl 0 0 n none)] [⟨2, false, none, .row (rowMd (mline 2 n))⟩] (by rfl) (by rfl) (by rfl) (by (repeat' (first | exact True.intro | exact rfl | refine And.intro ?_ ?_ | (simp [AV.ren, AV.rens, AObj.ren, Ent.ren, AV.inn, AV.inns, AObj.inn, *]; done)))) (by (repeat' (first | exact True.intro | exact rfl | refine And.intro ?_ ?_ | (simp [AV.ren, AV.rens, AObj.ren, Ent.ren, AV.inn, AV.inns, AObj.inn, *]; done)))) ?_)
        exact ⟨rfl, rfl⟩
      rw [decide_eq_true (show (i : Int) < (n : Int) by omega)]
      (conv => whnf)
      refine AW.seq ?_
      refine AW.block ?_
      have hsn := rowMd_snoc (mline 2 i) i ⟨(i : Int), 2⟩ (mline_len 2 i).symm
      rw [← mline_succ] at hsn
      simp only [] at hsn
      refine ev_sound tokT (keep := fun _ => true) ?_
      ((conv => whnf); (repeat (((refine And.intro (by first | (simp; done) | (simp [roomMost]; omega)) ?_); (conv => whnf)))))
      rw [hsn]
      refine ev_sound tokT (keep := fun _ => true) ?_
      (conv => whnf)
      rw [IntWalk.i64_in ((i : Int) + 1) (by omega)]
      (refine Turned.of [2] [(0, .int .i64 k), (1, .int .i64 (n : Int)), (2, .int .i64 (f : Int)), (7, .sl 0 0 (i + 1) none), (8, .int .i64 ((i + 1 : Nat) : Int))] [⟨2, false, none, .row (rowMd (mline 2 (i + 1)))⟩] (by rfl) (by rfl) (by rfl) (by (repeat' (first | exact True.intro | exact rfl | refine And.intro ?_ ?_ | (simp [AV.ren, AV.rens, AObj.ren, Ent.ren, AV.inn, AV.inns, AObj.inn, *]; done)))) (by (repeat' (first | exact True.intro | exact rfl | refine And.intro ?_ ?_ | (simp [AV.ren, AV.rens, AObj.ren, Ent.ren, AV.inn, AV.inns, AObj.inn, *]; done)))) ?_)
      exact ⟨n - (i + 1), by omega, i + 1, rfl, by omega, rfl, rfl⟩
  rintro fr hp ⟨rfl, rfl⟩
  obtain ⟨ml, hml⟩ : ∃ ml, mline 2 n ++ [⟨(f : Int), 1⟩] = ml := ⟨_, rfl⟩
  have hmll : ml.length = n + 1 := by rw [← hml, List.length_append, mline_len]; rfl
  have hsn := rowMd_snoc (mline 2 n) n ⟨(f : Int), 1⟩ (mline_len 2 n).symm
  rw [hml] at hsn
  simp only [] at hsn
  refine AW.cutT (fun fr hp => fr = [(0, .int .i64 k), (1, .int .i64 (n : Int)), (2, .int .i64 (f : Int)), (7, .sl 0 0 (n + 1) none)] ∧ hp = [⟨2, false, none, .row (rowMd ml)⟩]) ?_ ?_
  · refine ev_sound tokT (keep := fun _ => true) ?_
    ((conv => whnf); (repeat (((refine And.intro (by first | (simp; done) | (simp [roomMost]; omega)) ?_); (conv => whnf)))))
    rw [hsn]
    (refine Turned.of [2] [(0, .int .i64 k), (1, .int .i64 (n : Int)), (2, .int .i64 (f : Int)), (7, .sl 0 0 (n + 1) none)] [⟨2, false, none, .row (rowMd ml)⟩] (by rfl) (by rfl) (by rfl) (by (repeat' (first | exact True.intro | exact rfl | refine And.intro ?_ ?_ | (simp [AV.ren, AV.rens, AObj.ren, Ent.ren, AV.inn, AV.inns, AObj.inn, *]; done)))) (by (repeat' (first | exact True.intro | exact rfl | refine And.intro ?_ ?_ | (simp [AV.ren, AV.rens, AObj.ren, Ent.ren, AV.inn, AV.inns, AObj.inn, *]; done)))) ?_)
    exact ⟨rfl, rfl⟩
  rintro fr hp ⟨rfl, rfl⟩
  have hcast := cast_ok ml none (by omega)
  rw [hmll] at hcast
  obtain ⟨hLw, hLl, hL0⟩ := castA_props ml
  have hmi : ∀ i, i < n → ml[i]? = some ⟨(i : Int), 2⟩ := fun i hi => by rw [← hml, List.getElem?_append_left (by rw [mline_len]; omega)]; exact mline_get hi
  have hLine := fun j (hj : j ≤ n) => cast_line idsF_ok (l := ml) j (by omega) fun i hi => hmi i (by omega)
  have hLast := castA_at (l := ml) (j := n) (u := f) (wk := 1) (by rw [← hml, List.getElem?_append_right (by rw [mline_len]; omega), mline_len]; simp) (by omega)
  rw [(hLine f (by omega)).1] at hLast
  obtain ⟨L, hL⟩ : ∃ L, castA ml = L := ⟨_, rfl⟩
  rw [hL] at hcast hLw hLl hL0 hLine hLast
  rw [hmll] at hLl
  have hrL0 : (rowHd L)[0 + Int.toNat 0]? = some gen0.segs := by simp [rowHd, hL0]
  obtain ⟨hs, hhs⟩ : ∃ h, L.getD (n + 1) default = h := ⟨_, rfl⟩
  have hse : hs = ⟨idI idsF f, List.replicate 32 0, 1, (n : Int)⟩ := by rw [← hhs]; simp [hLast]
  have hrs : (rowHd L)[0 + ((n + 1 : Nat) : Int).toNat]? = some hs.segs := by rw [Nat.zero_add, Int.toNat_natCast, ← hhs]; exact hd_at L _ (by omega)
  have hsw : hs.wf := by rw [← hhs]; simp [List.getElem?_eq_getElem (show n + 1 < L.length by omega)]; exact hLw _ (List.getElem_mem _)
  obtain ⟨sd, hsd0⟩ : ∃ sd, hidOf hs = sd := ⟨_, rfl⟩
  have hsdl : sd.length = 32 := by rw [← hsd0]; exact hid_len _
  have hsd : ∀ j, j ≤ 40 → sd ≠ idI idsF j := fun j hj => by rw [← hsd0, hse]; exact apartF (by omega) hj ⟨by omega, hn40⟩
  have hris := refid_ok hs hsw
  rw [hsd0] at hris
  have hwn1 : IntKind.i64.wrap ((n : Int) + 1) = ((n + 1 : Nat) : Int) := by rw [IntWalk.i64_in _ (by omega)]; omega
  have hwf1 : IntKind.i64.wrap ((f : Int) + 1) = (f : Int) + 1 := IntWalk.i64_in _ (by omega)
  have hnb : newB gen0 k 5 = true := by
    unfold newB
    rw [show mayB gen0 = true by unfold mayB; decide, Bool.true_and]
    exact decide_eq_true ⟨hk1, by omega, by decide, by decide⟩
  have hnew := new_ok gen0 k 5 gen0_wf hnb
  obtain ⟨k0, t0⟩ := new_inv gen0 k 5 gen0_wf hnb
  have hl0 := line_new idsF_ok k 5 2 (fun id _ => id = sd)
  have hsi0 : SideI (newC gen0 k 5) sd 0 f k := by
    have hno : findK sd (newC gen0 k 5).known = none := by
      show (if sd = hidOf gen0 then _ else _) = _
      rw [if_neg (by rw [idsF_ok.zero]; exact hsd 0 (by omega))]
      rfl
    refine ⟨?_, fun x hx => ?_⟩
    · rw [hno]; exact (decide_eq_false (by omega)).symm
    · rw [hno] at hx; cases hx
  obtain ⟨c0, hc0⟩ : ∃ c0, newC gen0 k 5 = c0 := ⟨_, rfl⟩
  rw [hc0] at hnew k0 t0 hl0 hsi0
  refine AW.cutT (fun fr hp => fr = [(0, .int .i64 k), (1, .int .i64 (n : Int)), (2, .int .i64 (f : Int)), (9, .sl 0 0 (n + 1 + 1) none)] ∧ hp = [⟨66, false, none, .row (rowHd L)⟩]) ?_ ?_
  · refine ev_sound tokT (keep := fun _ => true) ?_
    (conv => whnf)
    refine AC.frame hcast [0] (by (repeat' (first | exact True.intro | exact rfl | refine And.intro ?_ ?_ | (simp [AV.ren, AV.rens, AObj.ren, Ent.ren, AV.inn, AV.inns, AObj.inn, *]; done)))) (by rfl) (by (repeat' (first | exact True.intro | refine And.intro ?_ ?_ | (simp [AV.ren, AV.rens, AObj.ren, Ent.ren, AV.inn, AV.inns, AObj.inn, *]; done)))) (by rfl) ?_
    rintro r0 hp0 ⟨rfl, rfl⟩
    (conv => whnf)
    (refine Turned.of [1] [(0, .int .i64 k), (1, .int .i64 (n : Int)), (2, .int .i64 (f : Int)), (9, .sl 0 0 (n + 1 + 1) none)] [⟨66, false, none, .row (rowHd L)⟩] (by rfl) (by rfl) (by rfl) (by (repeat' (first | exact True.intro | exact rfl | refine And.intro ?_ ?_ | (simp [AV.ren, AV.rens, AObj.ren, Ent.ren, AV.inn, AV.inns, AObj.inn, *]; done)))) (by (repeat' (first | exact True.intro | exact rfl | refine And.intro ?_ ?_ | (simp [AV.ren, AV.rens, AObj.ren, Ent.ren, AV.inn, AV.inns, AObj.inn, *]; done)))) ?_)
    exact ⟨rfl, rfl⟩
  rintro fr hp ⟨rfl, rfl⟩
  refine AW.cutT (fun fr hp => fr = [(0, .int .i64 k), (1, .int .i64 (n : Int)), (2, .int .i64 (f : Int)), (9, .sl 4 0 (n + 1 + 1) none), (10, .ptr 0 0 0 0), (11, .int .i64 0)] ∧ hp = [c0.varE false 1 2 3, c0.mapE false, c0.wayE false, c0.orpE false, ⟨66, false, none, .row (rowHd L)⟩]) ?_ ?_
  · unfold Ch.varE Ch.mapE Ch.wayE Ch.orpE
    refine ev_sound tokT (keep := fun _ => true) ?_
    ((conv => whnf); (repeat (((refine And.intro (by omega) ?_); (conv => whnf)))))
    rw [hrL0]
    (conv => whnf)
    refine AC.frame hnew [] (by (repeat' (exact True.intro))) (by rfl) (by (repeat' (first | exact True.intro | refine And.intro ?_ ?_))) (by rfl) ?_
    rintro r0 hp0 ⟨rfl, rfl⟩
    (conv => whnf)
    (refine Turned.of [1, 2, 3, 4, 0] [(0, .int .i64 k), (1, .int .i64 (n : Int)), (2, .int .i64 (f : Int)), (9, .sl 4 0 (n + 1 + 1) none), (10, .ptr 0 0 0 0), (11, .int .i64 0)] [c0.varE false 1 2 3, c0.mapE false, c0.wayE false, c0.orpE false, ⟨66, false, none, .row (rowHd L)⟩] (by rfl) (by rfl) (by rfl) (by (repeat' (first | exact True.intro | exact rfl | refine And.intro ?_ ?_ | (simp [AV.ren, AV.rens, AObj.ren, Ent.ren, AV.inn, AV.inns, AObj.inn, *]; done)))) (by (repeat' (first | exact True.intro | exact rfl | refine And.intro ?_ ?_ | (simp [AV.ren, AV.rens, AObj.ren, Ent.ren, AV.inn, AV.inns, AObj.inn, *]; done)))) ?_)
    exact ⟨rfl, rfl⟩
  rintro fr hp ⟨rfl, rfl⟩
  refine AW.cutT (fun fr hp => fr = [(0, .int .i64 k), (1, .int .i64 (n : Int)), (2, .int .i64 (f : Int)), (9, .sl 4 0 (n + 1 + 1) none), (10, .ptr 0 0 0 0)] ∧ hp = [c0.varE false 1 2 3, c0.mapE false, c0.wayE false, c0.orpE false, ⟨66, false, none, .row (rowHd L)⟩]) ?_ ?_
  · unfold Ch.varE Ch.mapE Ch.wayE Ch.orpE
    refine ev_sound tokT (keep := fun _ => true) ?_
    (conv => whnf)
    (refine Turned.of [0, 1, 2, 3, 4] [(0, .int .i64 k), (1, .int .i64 (n : Int)), (2, .int .i64 (f : Int)), (9, .sl 4 0 (n + 1 + 1) none), (10, .ptr 0 0 0 0)] [c0.varE false 1 2 3, c0.mapE false, c0.wayE false, c0.orpE false, ⟨66, false, none, .row (rowHd L)⟩] (by rfl) (by rfl) (by rfl) (by (repeat' (first | exact True.intro | exact rfl | refine And.intro ?_ ?_ | (simp [AV.ren, AV.rens, AObj.ren, Ent.ren, AV.inn, AV.inns, AObj.inn, *]; done)))) (by (repeat' (first | exact True.intro | exact rfl | refine And.intro ?_ ?_ | (simp [AV.ren, AV.rens, AObj.ren, Ent.ren, AV.inn, AV.inns, AObj.inn, *]; done)))) ?_)
    exact ⟨rfl, rfl⟩
  rintro fr hp ⟨rfl, rfl⟩
  refine AW.cutT (fun fr hp => fr = [(0, .int .i64 k), (1, .int .i64 (n : Int)), (2, .int .i64 (f : Int)), (9, .sl 4 0 (n + 1 + 1) none), (10, .ptr 0 0 0 0), (12, .ptr 5 0 0 0)] ∧ hp = [c0.varE false 1 2 3, c0.mapE false, c0.wayE false, c0.orpE false, ⟨66, false, none, .row (rowHd L)⟩, ⟨32, false, none, .var [.ints .u8 32 sd]⟩]) ?_ ?_
  · unfold Ch.varE Ch.mapE Ch.wayE Ch.orpE
    refine ev_sound tokT (keep := fun _ => true) ?_
    ((conv => whnf); (repeat (((refine And.intro (by omega) ?_); (conv => whnf)))))
    rw [hwn1, hrs]
    (conv => whnf)
    refine AC.pure (v := .agg [.ints .u8 32 sd]) hris (by simp [AV.inns, AV.inn]) (by simp [AV.inn, AV.inns]) ?_
    (conv => whnf)
    (refine Turned.of [0, 1, 2, 3, 4, 5] [(0, .int .i64 k), (1, .int .i64 (n : Int)), (2, .int .i64 (f : Int)), (9, .sl 4 0 (n + 1 + 1) none), (10, .ptr 0 0 0 0), (12, .ptr 5 0 0 0)] [c0.varE false 1 2 3, c0.mapE false, c0.wayE false, c0.orpE false, ⟨66, false, none, .row (rowHd L)⟩, ⟨32, false, none, .var [.ints .u8 32 sd]⟩] (by rfl) (by rfl) (by rfl) (by (repeat' (first | exact True.intro | exact rfl | refine And.intro ?_ ?_ | (simp [AV.ren, AV.rens, AObj.ren, Ent.ren, AV.inn, AV.inns, AObj.inn, *]; done)))) (by (repeat' (first | exact True.intro | exact rfl | refine And.intro ?_ ?_ | (simp [AV.ren, AV.rens, AObj.ren, Ent.ren, AV.inn, AV.inns, AObj.inn, *]; done)))) ?_)
    exact ⟨rfl, rfl⟩
  rintro fr hp ⟨rfl, rfl⟩
  refine AW.cutT (fun fr hp => ∃ c, (∃ N, KOk c N ∧ N ≤ 100) ∧ (Tree c ∧ Line c idsF n k 2 (fun id _ => id = sd) ∧ SideI c sd n f k) ∧ fr = [(0, .int .i64 k), (1, .int .i64 (n : Int)), (2, .int .i64 (f : Int)), (9, .sl 4 0 (n + 1 + 1) none), (10, .ptr 0 0 0 0), (12, .ptr 5 0 0 0)] ∧ hp = [c.varE false 1 2 3, c.mapE false, c.wayE false, c.orpE false, ⟨66, false, none, .row (rowHd L)⟩, ⟨32, false, none, .var [.ints .u8 32 sd]⟩]) ?_ ?_
  · unfold Ch.varE Ch.mapE Ch.wayE Ch.orpE
    refine AW.pre tokT (fun _ => true) ?_; (conv => whnf)
    refine AW.block ?_
    (refine AW.turnL [0, 1, 2, 3, 4, 5] [(0, .int .i64 k), (1, .int .i64 (n : Int)), (2, .int .i64 (f : Int)), (9, .sl 4 0 (n + 1 + 1) none), (10, .ptr 0 0 0 0), (12, .ptr 5 0 0 0), (13, .int .i64 ((0 + 1 : Nat) : Int))] [c0.varE false 1 2 3, c0.mapE false, c0.wayE false, c0.orpE false, ⟨66, false, none, .row (rowHd L)⟩, ⟨32, false, none, .var [.ints .u8 32 sd]⟩] (by rfl) (by rfl) (by rfl) (by (repeat' (first | exact True.intro | exact rfl | refine And.intro ?_ ?_ | (simp [AV.ren, AV.rens, AObj.ren, Ent.ren, AV.inn, AV.inns, AObj.inn, *]; done)))) (by (repeat' (first | exact True.intro | exact rfl | refine And.intro ?_ ?_ | (simp [AV.ren, AV.rens, AObj.ren, Ent.ren, AV.inn, AV.inns, AObj.inn, *]; done)))) ?_)
    refine AW.loop (fun u fr hp => ∃ (i : Nat) (c : Ch), u = n - i ∧ i ≤ n ∧ (∃ N, KOk c N ∧ N ≤ 2 * i) ∧ (Tree c ∧ Line c idsF i k 2 (fun id _ => id = sd) ∧ SideI c sd i f k) ∧ fr = [(0, .int .i64 k), (1, .int .i64 (n : Int)), (2, .int .i64 (f : Int)), (9, .sl 4 0 (n + 1 + 1) none), (10, .ptr 0 0 0 0), (12, .ptr 5 0 0 0), (13, .int .i64 ((i + 1 : Nat) : Int))] ∧ hp = [c.varE false 1 2 3, c.mapE false, c.wayE false, c.orpE false, ⟨66, false, none, .row (rowHd L)⟩, ⟨32, false, none, .var [.ints .u8 32 sd]⟩]) n ?_ ?_
    · exact ⟨0, c0, by omega, by omega, ⟨0, k0, by omega⟩, ⟨t0, hl0, hsi0⟩, rfl, rfl⟩
    · rintro u fr hp ⟨i, c, rfl, hi, ⟨N, hc, hN⟩, ⟨ht, hl, hsi⟩, rfl, rfl⟩ -
      refine AW.post ?_
      unfold Ch.varE Ch.mapE Ch.wayE Ch.orpE
      refine AW.pre tokT (fun _ => true) ?_; (conv => whnf)
      by_cases hil : i < n
      case neg =>
        rw [decide_eq_false (show ¬ ((i + 1 : Nat) : Int) ≤ (n : Int) by omega)]
        (conv => whnf)
        have hie : n = i := by omega
        subst hie
        (refine Turned.of [0, 1, 2, 3, 4, 5] [(0, .int .i64 k), (1, .int .i64 (n : Int)), (2, .int .i64 (f : Int)), (9, .sl 4 0 (n + 1 + 1) none), (10, .ptr 0 0 0 0), (12, .ptr 5 0 0 0)] [c.varE false 1 2 3, c.mapE false, c.wayE false, c.orpE false, ⟨66, false, none, .row (rowHd L)⟩, ⟨32, false, none, .var [.ints .u8 32 sd]⟩] (by rfl) (by rfl) (by rfl) (by (repeat' (first | exact True.intro | exact rfl | refine And.intro ?_ ?_ | (simp [AV.ren, AV.rens, AObj.ren, Ent.ren, AV.inn, AV.inns, AObj.inn, *]; done)))) (by (repeat' (first | exact True.intro | exact rfl | refine And.intro ?_ ?_ | (simp [AV.ren, AV.rens, AObj.ren, Ent.ren, AV.inn, AV.inns, AObj.inn, *]; done)))) ?_)
        exact ⟨c, ⟨N, hc, by omega⟩, ⟨ht, hl, hsi⟩, rfl, rfl⟩
      rw [decide_eq_true (show ((i + 1 : Nat) : Int) ≤ (n : Int) by omega)]
      (conv => whnf)
      refine AW.seq ?_
      refine AW.block ?_
      obtain ⟨h, hh⟩ : ∃ h, L.getD (i + 1) default = h := ⟨_, rfl⟩
      have hrq : (rowHd L)[0 + ((i + 1 : Nat) : Int).toNat]? = some h.segs := by rw [Nat.zero_add, Int.toNat_natCast, ← hh]; exact hd_at L _ (by omega)
      have hhe : h = ⟨idI idsF i, List.replicate 32 0, 2, (i : Int)⟩ := by
        rw [← hh]
        simp [(hLine (i + 1) (by omega)).2 (by omega)]
      have hw : h.wf := by rw [← hh]; simp [List.getElem?_eq_getElem (show i + 1 < L.length by omega)]; exact hLw _ (List.getElem_mem _)
      have hadd := add_ok c hc ht (by omega) h hw
      obtain ⟨k2, t2⟩ := adds_inv hc ht (by omega) h hw
      obtain ⟨he0, hl2, hs2, hn2'⟩ := forgets_step hc ht (by omega) hl hsi (by omega) hn40 hk1 hsd hhe hw
      obtain ⟨c2, hc2⟩ : ∃ c2, (addC c h).1 = c2 := ⟨_, rfl⟩
      obtain ⟨E, hE⟩ : ∃ E, (addC c h).2.1 = E := ⟨_, rfl⟩
      rw [hc2, hE, he0] at hadd
      rw [hc2] at k2 t2 hl2 hs2 hn2'
      unfold Ch.varE Ch.mapE Ch.wayE Ch.orpE at hadd
      refine AW.cutT (fun fr hp => fr = [(0, .int .i64 k), (1, .int .i64 (n : Int)), (2, .int .i64 (f : Int)), (9, .sl 4 0 (n + 1 + 1) none), (10, .ptr 0 0 0 0), (12, .ptr 5 0 0 0), (13, .int .i64 ((i + 1 : Nat) : Int)), (15, .int .i64 0)] ∧ hp = [c2.varE false 1 2 3, c2.mapE false, c2.wayE false, c2.orpE false, ⟨66, false, none, .row (rowHd L)⟩, ⟨32, false, none, .var [.ints .u8 32 sd]⟩]) ?_ ?_
      · unfold Ch.varE Ch.mapE Ch.wayE Ch.orpE
        refine ev_sound tokT (keep := fun _ => true) ?_
        ((conv => whnf); (repeat (((refine And.intro (by omega) ?_); (conv => whnf)))))
        rw [hrq]
        (conv => whnf)
        refine AC.frame hadd [0, 1, 2, 3] (by (repeat' (first | exact True.intro | exact rfl | refine And.intro ?_ ?_ | (simp [AV.ren, AV.rens, AObj.ren, Ent.ren, AV.inn, AV.inns, AObj.inn, *]; done)))) (by rfl) (by (repeat' (first | exact True.intro | refine And.intro ?_ ?_ | (simp [AV.ren, AV.rens, AObj.ren, Ent.ren, AV.inn, AV.inns, AObj.inn, *]; done)))) (by rfl) ?_
        rintro r0 hp0 ⟨rfl, rfl⟩
        (conv => whnf)
        (refine Turned.of [0, 1, 6, 7, 4, 5] [(0, .int .i64 k), (1, .int .i64 (n : Int)), (2, .int .i64 (f : Int)), (9, .sl 4 0 (n + 1 + 1) none), (10, .ptr 0 0 0 0), (12, .ptr 5 0 0 0), (13, .int .i64 ((i + 1 : Nat) : Int)), (15, .int .i64 0)] [c2.varE false 1 2 3, c2.mapE false, c2.wayE false, c2.orpE false, ⟨66, false, none, .row (rowHd L)⟩, ⟨32, false, none, .var [.ints .u8 32 sd]⟩] (by rfl) (by rfl) (by rfl) (by (repeat' (first | exact True.intro | exact rfl | refine And.intro ?_ ?_ | (simp [AV.ren, AV.rens, AObj.ren, Ent.ren, AV.inn, AV.inns, AObj.inn, *]; done)))) (by (repeat' (first | exact True.intro | exact rfl | refine And.intro ?_ ?_ | (simp [AV.ren, AV.rens, AObj.ren, Ent.ren, AV.inn, AV.inns, AObj.inn, *]; done)))) ?_)
        exact ⟨rfl, rfl⟩
      rintro fr hp ⟨rfl, rfl⟩
      refine AW.cutT (fun fr hp => fr = [(0, .int .i64 k), (1, .int .i64 (n : Int)), (2, .int .i64 (f : Int)), (9, .sl 4 0 (n + 1 + 1) none), (10, .ptr 0 0 0 0), (12, .ptr 5 0 0 0), (13, .int .i64 ((i + 1 : Nat) : Int))] ∧ hp = [c2.varE false 1 2 3, c2.mapE false, c2.wayE false, c2.orpE false, ⟨66, false, none, .row (rowHd L)⟩, ⟨32, false, none, .var [.ints .u8 32 sd]⟩]) ?_ ?_
      · unfold Ch.varE Ch.mapE Ch.wayE Ch.orpE
        refine ev_sound tokT (keep := fun _ => true) ?_
        (conv => whnf)
        (refine Turned.of [0, 1, 2, 3, 4, 5] [(0, .int .i64 k), (1, .int .i64 (n : Int)), (2, .int .i64 (f : Int)), (9, .sl 4 0 (n + 1 + 1) none), (10, .ptr 0 0 0 0), (12, .ptr 5 0 0 0), (13, .int .i64 ((i + 1 : Nat) : Int))] [c2.varE false 1 2 3, c2.mapE false, c2.wayE false, c2.orpE false, ⟨66, false, none, .row (rowHd L)⟩, ⟨32, false, none, .var [.ints .u8 32 sd]⟩] (by rfl) (by rfl) (by rfl) (by (repeat' (first | exact True.intro | exact rfl | refine And.intro ?_ ?_ | (simp [AV.ren, AV.rens, AObj.ren, Ent.ren, AV.inn, AV.inns, AObj.inn, *]; done)))) (by (repeat' (first | exact True.intro | exact rfl | refine And.intro ?_ ?_ | (simp [AV.ren, AV.rens, AObj.ren, Ent.ren, AV.inn, AV.inns, AObj.inn, *]; done)))) ?_)
        exact ⟨rfl, rfl⟩
      rintro fr hp ⟨rfl, rfl⟩
      refine AW.cutT (fun fr hp => ∃ c3, (∃ N, KOk c3 N ∧ N ≤ 2 * (i + 1)) ∧ (Tree c3 ∧ Line c3 idsF (i + 1) k 2 (fun id _ => id = sd) ∧ SideI c3 sd (i + 1) f k) ∧ fr = [(0, .int .i64 k), (1, .int .i64 (n : Int)), (2, .int .i64 (f : Int)), (9, .sl 4 0 (n + 1 + 1) none), (10, .ptr 0 0 0 0), (12, .ptr 5 0 0 0), (13, .int .i64 ((i + 1 : Nat) : Int))] ∧ hp = [c3.varE false 1 2 3, c3.mapE false, c3.wayE false, c3.orpE false, ⟨66, false, none, .row (rowHd L)⟩, ⟨32, false, none, .var [.ints .u8 32 sd]⟩]) ?_ ?_
      · unfold Ch.varE Ch.mapE Ch.wayE Ch.orpE
        refine AW.pre tokT (fun _ => true) ?_; (conv => whnf)
        rw [hwf1]
        by_cases hif : i = f
        case neg =>
          rw [show (((i + 1 : Nat) : Int) == (f : Int) + 1) = false from beq_eq_false_iff_ne.2 (by omega)]
          (conv => whnf)
          refine ev_sound tokT (keep := fun _ => true) ?_
          (conv => whnf)
          (refine Turned.of [0, 1, 2, 3, 4, 5] [(0, .int .i64 k), (1, .int .i64 (n : Int)), (2, .int .i64 (f : Int)), (9, .sl 4 0 (n + 1 + 1) none), (10, .ptr 0 0 0 0), (12, .ptr 5 0 0 0), (13, .int .i64 ((i + 1 : Nat) : Int))] [c2.varE false 1 2 3, c2.mapE false, c2.wayE false, c2.orpE false, ⟨66, false, none, .row (rowHd L)⟩, ⟨32, false, none, .var [.ints .u8 32 sd]⟩] (by rfl) (by rfl) (by rfl) (by (repeat' (first | exact True.intro | exact rfl | refine And.intro ?_ ?_ | (simp [AV.ren, AV.rens, AObj.ren, Ent.ren, AV.inn, AV.inns, AObj.inn, *]; done)))) (by (repeat' (first | exact True.intro | exact rfl | refine And.intro ?_ ?_ | (simp [AV.ren, AV.rens, AObj.ren, Ent.ren, AV.inn, AV.inns, AObj.inn, *]; done)))) ?_)
          exact ⟨c2, ⟨N + 1, k2, by omega⟩, ⟨t2, hl2, hs2 hif⟩, rfl, rfl⟩
        subst hif
        rw [show (((i + 1 : Nat) : Int) == (i : Int) + 1) = true from beq_iff_eq.2 (by omega)]
        (conv => whnf)
        have hadd3 := add_ok c2 k2 t2 (by omega) hs hsw
        obtain ⟨k3, t3⟩ := adds_inv k2 t2 (by omega) hs hsw
        obtain ⟨he3, hl3, hs3⟩ := side_add k2 t2 (by omega) hl2 (hn2' rfl) ⟨by omega, hn40⟩ hk1 hsd hse hsd0 hsw
        obtain ⟨c3, hc3⟩ : ∃ c3, (addC c2 hs).1 = c3 := ⟨_, rfl⟩
        obtain ⟨E3, hE3⟩ : ∃ E, (addC c2 hs).2.1 = E := ⟨_, rfl⟩
        rw [hc3, hE3, he3] at hadd3
        rw [hc3] at k3 t3 hl3 hs3
        unfold Ch.varE Ch.mapE Ch.wayE Ch.orpE at hadd3
        refine ev_sound tokT (keep := fun _ => true) ?_
        ((conv => whnf); (repeat (((refine And.intro (by omega) ?_); (conv => whnf)))))
        rw [hwn1, hrs]
        (conv => whnf)
        refine AC.frame hadd3 [0, 1, 2, 3] (by (repeat' (first | exact True.intro | exact rfl | refine And.intro ?_ ?_ | (simp [AV.ren, AV.rens, AObj.ren, Ent.ren, AV.inn, AV.inns, AObj.inn, *]; done)))) (by rfl) (by (repeat' (first | exact True.intro | refine And.intro ?_ ?_ | (simp [AV.ren, AV.rens, AObj.ren, Ent.ren, AV.inn, AV.inns, AObj.inn, *]; done)))) (by rfl) ?_
        rintro r0 hp0 ⟨rfl, rfl⟩
        (conv => whnf)
        (refine Turned.of [0, 1, 6, 7, 4, 5] [(0, .int .i64 k), (1, .int .i64 (n : Int)), (2, .int .i64 (i : Int)), (9, .sl 4 0 (n + 1 + 1) none), (10, .ptr 0 0 0 0), (12, .ptr 5 0 0 0), (13, .int .i64 ((i + 1 : Nat) : Int))] [c3.varE false 1 2 3, c3.mapE false, c3.wayE false, c3.orpE false, ⟨66, false, none, .row (rowHd L)⟩, ⟨32, false, none, .var [.ints .u8 32 sd]⟩] (by rfl) (by rfl) (by rfl) (by (repeat' (first | exact True.intro | exact rfl | refine And.intro ?_ ?_ | (simp [AV.ren, AV.rens, AObj.ren, Ent.ren, AV.inn, AV.inns, AObj.inn, *]; done)))) (by (repeat' (first | exact True.intro | exact rfl | refine And.intro ?_ ?_ | (simp [AV.ren, AV.rens, AObj.ren, Ent.ren, AV.inn, AV.inns, AObj.inn, *]; done)))) ?_)
        exact ⟨c3, ⟨N + 1 + 1, k3, by omega⟩, ⟨t3, hl3, hs3⟩, rfl, rfl⟩
      rintro fr hp ⟨c3, ⟨N3, k3, hN3⟩, ⟨t3, hl3, hs3⟩, rfl, rfl⟩
      have hkn := known_ok c3 sd hsdl
      rw [hs3.is] at hkn
      unfold Ch.varE Ch.mapE Ch.wayE Ch.orpE at hkn
      unfold Ch.varE Ch.mapE Ch.wayE Ch.orpE
      refine ev_sound tokT (keep := fun _ => true) ?_
      (conv => whnf)
      refine AC.frame hkn [0, 1, 2, 3] (by (repeat' (first | exact True.intro | exact rfl | refine And.intro ?_ ?_ | (simp [AV.ren, AV.rens, AObj.ren, Ent.ren, AV.inn, AV.inns, AObj.inn, *]; done)))) (by rfl) (by (repeat' (first | exact True.intro | refine And.intro ?_ ?_ | (simp [AV.ren, AV.rens, AObj.ren, Ent.ren, AV.inn, AV.inns, AObj.inn, *]; done)))) (by rfl) ?_
      rintro r0 hp0 ⟨rfl, rfl⟩
      (conv => whnf)
      by_cases hfi : (f : Int) < ((i + 1 : Nat) : Int)
      · rw [decide_eq_true (show ((i + 1 : Nat) : Int) > (f : Int) by omega)]
        (conv => whnf)
        rw [hwf1, IntWalk.i64_in (((i + 1 : Nat) : Int) - k) (by omega)]
        rw [show (decide (f < i + 1 ∧ ((i + 1 : Nat) : Int) - k ≤ (f : Int) + 1) == decide ((f : Int) + 1 ≥ ((i + 1 : Nat) : Int) - k)) = true from beq_iff_eq.2 (decide_eq_decide.2 ⟨fun _ => by omega, fun _ => by omega⟩)]
        (conv => whnf)
        refine ev_sound tokT (keep := fun _ => true) ?_
        (conv => whnf)
        rw [IntWalk.i64_in (((i + 1 : Nat) : Int) + 1) (by omega)]
        (refine Turned.of [0, 1, 2, 3, 4, 5] [(0, .int .i64 k), (1, .int .i64 (n : Int)), (2, .int .i64 (f : Int)), (9, .sl 4 0 (n + 1 + 1) none), (10, .ptr 0 0 0 0), (12, .ptr 5 0 0 0), (13, .int .i64 ((i + 1 + 1 : Nat) : Int))] [c3.varE false 1 2 3, c3.mapE false, c3.wayE false, c3.orpE false, ⟨66, false, none, .row (rowHd L)⟩, ⟨32, false, none, .var [.ints .u8 32 sd]⟩] (by rfl) (by rfl) (by rfl) (by (repeat' (first | exact True.intro | exact rfl | refine And.intro ?_ ?_ | (simp [AV.ren, AV.rens, AObj.ren, Ent.ren, AV.inn, AV.inns, AObj.inn, *]; done)))) (by (repeat' (first | exact True.intro | exact rfl | refine And.intro ?_ ?_ | (simp [AV.ren, AV.rens, AObj.ren, Ent.ren, AV.inn, AV.inns, AObj.inn, *]; done)))) ?_)
        exact ⟨n - (i + 1), by omega, i + 1, c3, rfl, by omega, ⟨N3, k3, hN3⟩, ⟨t3, hl3, hs3⟩, rfl, rfl⟩
      · rw [decide_eq_false (show ¬ ((i + 1 : Nat) : Int) > (f : Int) by omega)]
        (conv => whnf)
        rw [decide_eq_false (show ¬ (f < i + 1 ∧ ((i + 1 : Nat) : Int) - k ≤ (f : Int) + 1) by omega)]
        (conv => whnf)
        refine ev_sound tokT (keep := fun _ => true) ?_
        (conv => whnf)
        rw [IntWalk.i64_in (((i + 1 : Nat) : Int) + 1) (by omega)]
        (refine Turned.of [0, 1, 2, 3, 4, 5] [(0, .int .i64 k), (1, .int .i64 (n : Int)), (2, .int .i64 (f : Int)), (9, .sl 4 0 (n + 1 + 1) none), (10, .ptr 0 0 0 0), (12, .ptr 5 0 0 0), (13, .int .i64 ((i + 1 + 1 : Nat) : Int))] [c3.varE false 1 2 3, c3.mapE false, c3.wayE false, c3.orpE false, ⟨66, false, none, .row (rowHd L)⟩, ⟨32, false, none, .var [.ints .u8 32 sd]⟩] (by rfl) (by rfl) (by rfl) (by (repeat' (first | exact True.intro | exact rfl | refine And.intro ?_ ?_ | (simp [AV.ren, AV.rens, AObj.ren, Ent.ren, AV.inn, AV.inns, AObj.inn, *]; done)))) (by (repeat' (first | exact True.intro | exact rfl | refine And.intro ?_ ?_ | (simp [AV.ren, AV.rens, AObj.ren, Ent.ren, AV.inn, AV.inns, AObj.inn, *]; done)))) ?_)
        exact ⟨n - (i + 1), by omega, i + 1, c3, rfl, by omega, ⟨N3, k3, hN3⟩, ⟨t3, hl3, hs3⟩, rfl, rfl⟩
  rintro fr hp ⟨c, ⟨N, hc, hN⟩, ⟨ht, hl, hsi⟩, rfl, rfl⟩
  refine AW.cutT (fun fr hp => fr = [] ∧ hp = [c.varE false 1 2 3, c.mapE false, c.wayE false, c.orpE false, ⟨66, false, none, .row (rowHd L)⟩, ⟨32, false, none, .var [.ints .u8 32 sd]⟩]) ?_ ?_
  · unfold Ch.varE Ch.mapE Ch.wayE Ch.orpE
    refine AW.pre tokT (fun _ => true) ?_; (conv => whnf)
    refine AW.block ?_
    (refine AW.turnL [0, 1, 2, 3, 4, 5] [(0, .int .i64 k), (1, .int .i64 (n : Int)), (2, .int .i64 (f : Int)), (9, .sl 4 0 (n + 1 + 1) none), (10, .ptr 0 0 0 0), (12, .ptr 5 0 0 0), (16, .int .i64 0)] [c.varE false 1 2 3, c.mapE false, c.wayE false, c.orpE false, ⟨66, false, none, .row (rowHd L)⟩, ⟨32, false, none, .var [.ints .u8 32 sd]⟩] (by rfl) (by rfl) (by rfl) (by (repeat' (first | exact True.intro | exact rfl | refine And.intro ?_ ?_ | (simp [AV.ren, AV.rens, AObj.ren, Ent.ren, AV.inn, AV.inns, AObj.inn, *]; done)))) (by (repeat' (first | exact True.intro | exact rfl | refine And.intro ?_ ?_ | (simp [AV.ren, AV.rens, AObj.ren, Ent.ren, AV.inn, AV.inns, AObj.inn, *]; done)))) ?_)
    refine AW.loop (fun u fr hp => ∃ i : Nat, u = n + 1 - i ∧ i ≤ n + 1 ∧ fr = [(0, .int .i64 k), (1, .int .i64 (n : Int)), (2, .int .i64 (f : Int)), (9, .sl 4 0 (n + 1 + 1) none), (10, .ptr 0 0 0 0), (12, .ptr 5 0 0 0), (16, .int .i64 (i : Int))] ∧ hp = [c.varE false 1 2 3, c.mapE false, c.wayE false, c.orpE false, ⟨66, false, none, .row (rowHd L)⟩, ⟨32, false, none, .var [.ints .u8 32 sd]⟩]) (n + 1) ?_ ?_
    · exact ⟨0, by omega, by omega, rfl, rfl⟩
    · rintro u fr hp ⟨i, rfl, hi, rfl, rfl⟩ -
      refine AW.post ?_
      unfold Ch.varE Ch.mapE Ch.wayE Ch.orpE
      refine AW.pre tokT (fun _ => true) ?_; (conv => whnf)
      by_cases hil : i < n + 1
      case neg =>
        rw [decide_eq_false (show ¬ (i : Int) ≤ (n : Int) by omega)]
        (conv => whnf)
        (refine Turned.of [0, 1, 2, 3, 4, 5] [] [c.varE false 1 2 3, c.mapE false, c.wayE false, c.orpE false, ⟨66, false, none, .row (rowHd L)⟩, ⟨32, false, none, .var [.ints .u8 32 sd]⟩] (by rfl) (by rfl) (by rfl) (by (repeat' (first | exact True.intro | exact rfl | refine And.intro ?_ ?_ | (simp [AV.ren, AV.rens, AObj.ren, Ent.ren, AV.inn, AV.inns, AObj.inn, *]; done)))) (by (repeat' (first | exact True.intro | exact rfl | refine And.intro ?_ ?_ | (simp [AV.ren, AV.rens, AObj.ren, Ent.ren, AV.inn, AV.inns, AObj.inn, *]; done)))) ?_)
        exact ⟨rfl, rfl⟩
      rw [decide_eq_true (show (i : Int) ≤ (n : Int) by omega)]
      (conv => whnf)
      refine AW.seq ?_
      refine AW.block ?_
      obtain ⟨h, hh⟩ : ∃ h, L.getD i default = h := ⟨_, rfl⟩
      have hrq : (rowHd L)[0 + (i : Int).toNat]? = some h.segs := by rw [Nat.zero_add, Int.toNat_natCast, ← hh]; exact hd_at L _ (by omega)
      have hw : h.wf := by rw [← hh]; simp [List.getElem?_eq_getElem (show i < L.length by omega)]; exact hLw _ (List.getElem_mem _)
      have hri := refid_ok h hw
      have hid : hidOf h = idI idsF i := by rw [← hh]; exact (hLine i (by omega)).1
      rw [hid] at hri
      have hidl : (idI idsF i).length = 32 := by rw [← hid]; exact hid_len _
      obtain ⟨x, hx, _⟩ := hl.known i (by omega)
      have hkn := known_ok c (idI idsF i) hidl
      rw [hx] at hkn
      simp only [Option.isSome_some] at hkn
      unfold Ch.varE Ch.mapE Ch.wayE Ch.orpE at hkn
      refine ev_sound tokT (keep := fun _ => true) ?_
      ((conv => whnf); (repeat (((refine And.intro (by omega) ?_); (conv => whnf)))))
      rw [hrq]
      (conv => whnf)
      refine AC.pure (v := .agg [.ints .u8 32 (idI idsF i)]) hri (by simp [AV.inns, AV.inn]) (by simp [AV.inn, AV.inns]) ?_
      (conv => whnf)
      refine AC.frame hkn [0, 1, 2, 3] (by (repeat' (first | exact True.intro | exact rfl | refine And.intro ?_ ?_ | (simp [AV.ren, AV.rens, AObj.ren, Ent.ren, AV.inn, AV.inns, AObj.inn, *]; done)))) (by rfl) (by (repeat' (first | exact True.intro | refine And.intro ?_ ?_ | (simp [AV.ren, AV.rens, AObj.ren, Ent.ren, AV.inn, AV.inns, AObj.inn, *]; done)))) (by rfl) ?_
      rintro r0 hp0 ⟨rfl, rfl⟩
      (conv => whnf)
      refine ev_sound tokT (keep := fun _ => true) ?_
      (conv => whnf)
      rw [IntWalk.i64_in ((i : Int) + 1) (by omega)]
      (refine Turned.of [0, 1, 2, 3, 4, 5] [(0, .int .i64 k), (1, .int .i64 (n : Int)), (2, .int .i64 (f : Int)), (9, .sl 4 0 (n + 1 + 1) none), (10, .ptr 0 0 0 0), (12, .ptr 5 0 0 0), (16, .int .i64 ((i + 1 : Nat) : Int))] [c.varE false 1 2 3, c.mapE false, c.wayE false, c.orpE false, ⟨66, false, none, .row (rowHd L)⟩, ⟨32, false, none, .var [.ints .u8 32 sd]⟩] (by rfl) (by rfl) (by rfl) (by (repeat' (first | exact True.intro | exact rfl | refine And.intro ?_ ?_ | (simp [AV.ren, AV.rens, AObj.ren, Ent.ren, AV.inn, AV.inns, AObj.inn, *]; done)))) (by (repeat' (first | exact True.intro | exact rfl | refine And.intro ?_ ?_ | (simp [AV.ren, AV.rens, AObj.ren, Ent.ren, AV.inn, AV.inns, AObj.inn, *]; done)))) ?_)
      exact ⟨n + 1 - (i + 1), by omega, i + 1, rfl, by omega, rfl, rfl⟩
  rintro fr hp ⟨rfl, rfl⟩
  unfold Ch.varE Ch.mapE Ch.wayE Ch.orpE
  refine AW.pre tokT (fun _ => true) ?_; (conv => whnf)
  refine AC.pure (v := .bool true) haw (by simp [AV.inns]) (by simp [AV.inn]) ?_
  (conv => whnf)
  refine ev_sound tokT (keep := fun _ => true) ?_
  (conv => whnf)
  (refine Left.of [] (.bool true) [] (by rfl) (by rfl) (by rfl) (by (repeat' (exact True.intro))) (by rfl) (by (repeat' (exact True.intro))) ?_)
  rfl
end Go.Aw
