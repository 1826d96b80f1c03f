/-
  AwCh22: ChainBest: the walk. Own work.
-/
import Derived.Test.YtdababcblhbpeaaAwCh21
import Derived.Test.YtdababcblhbpeaaAwCh20
import Derived.Test.YtdababcblhbpeaaM4
set_option linter.unusedVariables false
set_option linter.unusedSimpArgs false
set_option maxRecDepth 20000
set_option maxHeartbeats 4000000
open Go.Proofs
namespace Go.Aw

theorem AW.endT {P : Program} {N M : Nat} {x : Code} {Kn E G R} {fr : Fr} {hp : Hp} (I : Fr → Hp → Prop) (h : AW P N M x (Turned M I) E G R fr hp) (h' : ∀ fr hp, I fr hp → Kn fr hp) : AW P N M x Kn E G R fr hp :=
  AW.post (AW.mono h fun fr hp g => by
    unfold Turned at g ⊢
    obtain ⟨σ, fr', hp', a, b, c, d, e⟩ := g
    exact ⟨σ, fr', hp', a, b, c, d, h' _ _ e⟩)
theorem best_law (ml0 : List Md) (os : List Int) (n m : Nat) (hn : n ≤ ml0.length) (hm : m ≤ os.length) :
    AC Try.prog 20 [.sl 0 0 n (some ml0.length), .sl 1 0 m (some os.length)] [⟨2, true, none, .row (rowMd ml0)⟩, ⟨1, true, none, .ints .i64 os⟩] (fun r hp' => r = .bool true) := by
  refine AC.left (AC.body tokT Try.func20 rfl rfl rfl (by decide) (by rfl) ?_)
  obtain ⟨ml, hml⟩ : ∃ ml, ml0.take n = ml := ⟨_, rfl⟩
  have hmn : ml.length = n := by rw [← hml, List.length_take]; omega
  refine AW.shorten 0 n 2 true none (rowMd ml0) [⟨2, true, none, .row (rowMd ml)⟩, ⟨1, true, none, .ints .i64 os⟩] (by decide) rfl (by rw [← hml]; simp [rowMd, List.map_take]) ?_
  subst hmn
  have haw := awake_ok
  refine AW.pre tokT (fun _ => true) ?_; (conv => whnf)
  -- too much: nothing is asked
  refine AW.cutT (fun fr hp => (ml.length ≤ 40 ∧ m ≤ 60) ∧ fr = [(0, .sl 0 0 ml.length (some ml0.length)), (1, .sl 1 0 m (some os.length))] ∧ hp = [⟨2, true, none, .row (rowMd ml)⟩, ⟨1, true, none, .ints .i64 os⟩]) ?_ ?_
  · refine AW.cutT (fun fr hp => fr = [(0, .sl 0 0 ml.length (some ml0.length)), (1, .sl 1 0 m (some os.length)), (28, .bool (decide (ml.length > 40) || decide (m > 60)))] ∧ hp = [⟨2, true, none, .row (rowMd ml)⟩, ⟨1, true, none, .ints .i64 os⟩]) ?_ ?_
    · refine ev_sound tokT (keep := fun _ => true) ?_
      (conv => whnf)
      (cases g1 : (decide ((↑ml.length : Int) > 40) : Bool) <;> (try simp only [beq_iff_eq, beq_eq_false_iff_ne, ne_eq, decide_eq_true_eq, decide_eq_false_iff_not, bne_iff_ne, bne_eq_false_iff_eq, Bool.not_eq_true, Bool.not_eq_false, gt_iff_lt, ge_iff_le] at g1) <;> (try (exfalso; omega)))
      case' true =>
        have : (decide (ml.length > 40) || decide (m > 60)) = true := by rw [decide_eq_true (show ml.length > 40 by omega)]; rfl
        rw [this]
        (conv => whnf)
        (refine Turned.of [0, 1] [(0, .sl 0 0 ml.length (some ml0.length)), (1, .sl 1 0 m (some os.length)), (28, .bool true)] [⟨2, true, none, .row (rowMd ml)⟩, ⟨1, true, none, .ints .i64 os⟩] (by rfl) (by rfl) (by rfl) (by (repeat' (first | exact True.intro | exact rfl | refine And.intro ?_ ?_ | (simp [AV.ren, AV.rens, AObj.ren, Ent.ren, AV.inn, AV.inns, AObj.inn, *]; done)))) (by (repeat' (first | exact True.intro | exact rfl | refine And.intro ?_ ?_ | (simp [AV.ren, AV.rens, AObj.ren, Ent.ren, AV.inn, AV.inns, AObj.inn, *]; done)))) ?_)
        exact ⟨rfl, rfl⟩
      have : (decide (ml.length > 40) || decide (m > 60)) = decide ((m : Int) > 60) := by rw [decide_eq_false (show ¬ ml.length > 40 by omega), Bool.false_or]; exact Bool.eq_iff_iff.2 (by simp; omega)
      rw [this]
      (conv => whnf)
      (refine Turned.of [0, 1] [(0, .sl 0 0 ml.length (some ml0.length)), (1, .sl 1 0 m (some os.length)), (28, .bool (decide ((m : Int) > 60)))] [⟨2, true, none, .row (rowMd ml)⟩, ⟨1, true, none, .ints .i64 os⟩] (by rfl) (by rfl) (by rfl) (by (repeat' (first | exact True.intro | exact rfl | refine And.intro ?_ ?_ | (simp [AV.ren, AV.rens, AObj.ren, Ent.ren, AV.inn, AV.inns, AObj.inn, *]; done)))) (by (repeat' (first | exact True.intro | exact rfl | refine And.intro ?_ ?_ | (simp [AV.ren, AV.rens, AObj.ren, Ent.ren, AV.inn, AV.inns, AObj.inn, *]; done)))) ?_)
      exact ⟨rfl, rfl⟩
    rintro fr hp ⟨rfl, rfl⟩
    refine AW.condK ?_
    (conv => whnf)
    cases hb : (decide (ml.length > 40) || decide (m > 60)) with
    | true =>
      (conv => whnf)
      refine AW.pre tokT (fun _ => true) ?_; (conv => whnf)
      refine AC.pure (v := .bool true) haw (by simp [AV.inns]) (by simp [AV.inn]) ?_
      (conv => whnf)
      refine ev_sound tokT (keep := fun _ => true) ?_
      (conv => whnf)
      (refine Left.of [0, 1] (.bool true) [⟨2, true, none, .row (rowMd ml)⟩, ⟨1, true, none, .ints .i64 os⟩] (by rfl) (by rfl) (by rfl) (by (repeat' (first | exact True.intro | exact rfl | refine And.intro ?_ ?_ | (simp [AV.ren, AV.rens, AObj.ren, Ent.ren, AV.inn, AV.inns, AObj.inn, *]; done)))) (by rfl) (by (repeat' (first | exact True.intro | exact rfl | refine And.intro ?_ ?_ | (simp [AV.ren, AV.rens, AObj.ren, Ent.ren, AV.inn, AV.inns, AObj.inn, *]; done)))) ?_)
      rfl
    | false =>
      rw [Bool.or_eq_false_iff, decide_eq_false_iff_not, decide_eq_false_iff_not] at hb
      refine ev_sound tokT (keep := fun _ => true) ?_
      (conv => whnf)
      (refine Turned.of [0, 1] [(0, .sl 0 0 ml.length (some ml0.length)), (1, .sl 1 0 m (some os.length))] [⟨2, true, none, .row (rowMd ml)⟩, ⟨1, true, none, .ints .i64 os⟩] (by rfl) (by rfl) (by rfl) (by (repeat' (first | exact True.intro | exact rfl | refine And.intro ?_ ?_ | (simp [AV.ren, AV.rens, AObj.ren, Ent.ren, AV.inn, AV.inns, AObj.inn, *]; done)))) (by (repeat' (first | exact True.intro | exact rfl | refine And.intro ?_ ?_ | (simp [AV.ren, AV.rens, AObj.ren, Ent.ren, AV.inn, AV.inns, AObj.inn, *]; done)))) ?_)
      exact ⟨⟨by omega, by omega⟩, rfl, rfl⟩
  rintro fr hp ⟨⟨hl40, hm60⟩, rfl, rfl⟩
  have hnew := new_ok gen0 100 100 gen0_wf (by unfold newB mayB; decide)
  obtain ⟨k0, t0⟩ := new_inv gen0 100 100 gen0_wf (by unfold newB mayB; decide)
  have b0 := new_best gen0 100
  obtain ⟨c0, hc0⟩ : ∃ c0, newC gen0 100 100 = c0 := ⟨_, rfl⟩
  rw [hc0] at hnew k0 t0 b0
  have hcast := cast_ok ml (some ml0.length) (by omega)
  obtain ⟨hLw, hLl, hL0⟩ := castA_props ml
  obtain ⟨L, hL⟩ : ∃ L, castA ml = L := ⟨_, rfl⟩
  rw [hL] at hcast hLw hLl hL0
  have hrL0 : (rowHd L)[0 + Int.toNat 0]? = some gen0.segs := by simp [rowHd, hL0]
  have hri0 := refid_ok gen0 gen0_wf
  refine AW.cutT (fun fr hp => fr = [(1, .sl 1 0 m (some os.length)), (5, .sl 2 0 (ml.length + 1) none)] ∧ hp = [⟨2, true, none, .row (rowMd ml)⟩, ⟨1, true, none, .ints .i64 os⟩, ⟨66, false, none, .row (rowHd L)⟩]) ?_ ?_
  · refine ev_sound tokT (keep := fun _ => true) ?_
    (conv => whnf)
    refine AC.frame hcast [0] (by (repeat' (first | exact True.intro | exact rfl | refine And.intro ?_ ?_ | (simp [AV.ren, AV.rens, AObj.ren, Ent.ren, AV.inn, AV.inns, AObj.inn, *]; done)))) (by rfl) (by (repeat' (first | exact True.intro | refine And.intro ?_ ?_ | (simp [AV.ren, AV.rens, AObj.ren, Ent.ren, AV.inn, AV.inns, AObj.inn, *]; done)))) (by rfl) ?_
    rintro r0 hp0 ⟨rfl, rfl⟩
    (conv => whnf)
    (refine Turned.of [0, 1, 2] [(1, .sl 1 0 m (some os.length)), (5, .sl 2 0 (ml.length + 1) none)] [⟨2, true, none, .row (rowMd ml)⟩, ⟨1, true, none, .ints .i64 os⟩, ⟨66, false, none, .row (rowHd L)⟩] (by rfl) (by rfl) (by rfl) (by (repeat' (first | exact True.intro | exact rfl | refine And.intro ?_ ?_ | (simp [AV.ren, AV.rens, AObj.ren, Ent.ren, AV.inn, AV.inns, AObj.inn, *]; done)))) (by (repeat' (first | exact True.intro | exact rfl | refine And.intro ?_ ?_ | (simp [AV.ren, AV.rens, AObj.ren, Ent.ren, AV.inn, AV.inns, AObj.inn, *]; done)))) ?_)
    exact ⟨rfl, rfl⟩
  rintro fr hp ⟨rfl, rfl⟩
  refine AW.cutT (fun fr hp => fr = [(1, .sl 1 0 m (some os.length)), (5, .sl 6 0 (ml.length + 1) none), (6, .ptr 2 0 0 0), (7, .int .i64 0)] ∧ hp = [⟨2, true, none, .row (rowMd ml)⟩, ⟨1, true, none, .ints .i64 os⟩, c0.varE false 3 4 5, c0.mapE false, c0.wayE false, c0.orpE false, ⟨66, false, none, .row (rowHd L)⟩]) ?_ ?_
  · unfold Ch.varE Ch.mapE Ch.wayE Ch.orpE
    refine ev_sound tokT (keep := fun _ => true) ?_
    ((conv => whnf); (repeat (((refine And.intro (by omega) ?_); (conv => whnf)))))
    rw [hrL0]
    (conv => whnf)
    refine AC.frame hnew [] (by (repeat' (exact True.intro))) (by rfl) (by (repeat' (first | exact True.intro | refine And.intro ?_ ?_))) (by rfl) ?_
    rintro r0 hp0 ⟨rfl, rfl⟩
    (conv => whnf)
    (refine Turned.of [0, 1, 3, 4, 5, 6, 2] [(1, .sl 1 0 m (some os.length)), (5, .sl 6 0 (ml.length + 1) none), (6, .ptr 2 0 0 0), (7, .int .i64 0)] [⟨2, true, none, .row (rowMd ml)⟩, ⟨1, true, none, .ints .i64 os⟩, c0.varE false 3 4 5, c0.mapE false, c0.wayE false, c0.orpE false, ⟨66, false, none, .row (rowHd L)⟩] (by rfl) (by rfl) (by rfl) (by (repeat' (first | exact True.intro | exact rfl | refine And.intro ?_ ?_ | (simp [AV.ren, AV.rens, AObj.ren, Ent.ren, AV.inn, AV.inns, AObj.inn, *]; done)))) (by (repeat' (first | exact True.intro | exact rfl | refine And.intro ?_ ?_ | (simp [AV.ren, AV.rens, AObj.ren, Ent.ren, AV.inn, AV.inns, AObj.inn, *]; done)))) ?_)
    exact ⟨rfl, rfl⟩
  rintro fr hp ⟨rfl, rfl⟩
  refine AW.cutT (fun fr hp => fr = [(1, .sl 1 0 m (some os.length)), (5, .sl 6 0 (ml.length + 1) none), (6, .ptr 2 0 0 0)] ∧ hp = [⟨2, true, none, .row (rowMd ml)⟩, ⟨1, true, none, .ints .i64 os⟩, c0.varE false 3 4 5, c0.mapE false, c0.wayE false, c0.orpE false, ⟨66, false, none, .row (rowHd L)⟩]) ?_ ?_
  · unfold Ch.varE Ch.mapE Ch.wayE Ch.orpE
    refine ev_sound tokT (keep := fun _ => true) ?_
    (conv => whnf)
    (refine Turned.of [0, 1, 2, 3, 4, 5, 6] [(1, .sl 1 0 m (some os.length)), (5, .sl 6 0 (ml.length + 1) none), (6, .ptr 2 0 0 0)] [⟨2, true, none, .row (rowMd ml)⟩, ⟨1, true, none, .ints .i64 os⟩, c0.varE false 3 4 5, c0.mapE false, c0.wayE false, c0.orpE false, ⟨66, false, none, .row (rowHd L)⟩] (by rfl) (by rfl) (by rfl) (by (repeat' (first | exact True.intro | exact rfl | refine And.intro ?_ ?_ | (simp [AV.ren, AV.rens, AObj.ren, Ent.ren, AV.inn, AV.inns, AObj.inn, *]; done)))) (by (repeat' (first | exact True.intro | exact rfl | refine And.intro ?_ ?_ | (simp [AV.ren, AV.rens, AObj.ren, Ent.ren, AV.inn, AV.inns, AObj.inn, *]; done)))) ?_)
    exact ⟨rfl, rfl⟩
  rintro fr hp ⟨rfl, rfl⟩
  refine AW.cutT (fun fr hp => ∃ c : Ch, fr = [] ∧ hp = [⟨2, true, none, .row (rowMd ml)⟩, ⟨1, true, none, .ints .i64 os⟩, c.varE false 3 4 5, c.mapE false, c.wayE false, c.orpE false, ⟨66, false, none, .row (rowHd L)⟩]) ?_ ?_
  · refine AW.pre tokT (fun _ => true) ?_; (conv => whnf)
    (refine AW.turnL [0, 1, 2, 3, 4, 5, 6] [(1, .sl 1 0 m (some os.length)), (5, .sl 6 0 (ml.length + 1) none), (6, .ptr 2 0 0 0), (8, .int .i64 0)] [⟨2, true, none, .row (rowMd ml)⟩, ⟨1, true, none, .ints .i64 os⟩, c0.varE false 3 4 5, c0.mapE false, c0.wayE false, c0.orpE false, ⟨66, false, none, .row (rowHd L)⟩] (by rfl) (by rfl) (by rfl) (by (repeat' (first | exact True.intro | exact rfl | refine And.intro ?_ ?_ | (simp [AV.ren, AV.rens, AObj.ren, Ent.ren, AV.inn, AV.inns, AObj.inn, *]; done)))) (by (repeat' (first | exact True.intro | exact rfl | refine And.intro ?_ ?_ | (simp [AV.ren, AV.rens, AObj.ren, Ent.ren, AV.inn, AV.inns, AObj.inn, *]; done)))) ?_)
    refine AW.block ?_
    refine AW.loop (fun q fr hp => ∃ (i : Nat) (c : Ch), q = m - i ∧ i ≤ m ∧ KOk c i ∧ Tree c ∧ BestC c (hidOf gen0) ∧ fr = [(1, .sl 1 0 m (some os.length)), (5, .sl 6 0 (ml.length + 1) none), (6, .ptr 2 0 0 0), (8, .int .i64 (i : Int))] ∧ hp = [⟨2, true, none, .row (rowMd ml)⟩, ⟨1, true, none, .ints .i64 os⟩, c.varE false 3 4 5, c.mapE false, c.wayE false, c.orpE false, ⟨66, false, none, .row (rowHd L)⟩]) m ?_ ?_
    · exact ⟨0, c0, rfl, by omega, k0, t0, b0, rfl, rfl⟩
    · rintro q fr hp ⟨i, c, rfl, hi, hc, ht, hbe, rfl, rfl⟩ -
      refine AW.post ?_
      unfold Ch.varE Ch.mapE Ch.wayE Ch.orpE
      refine AW.pre tokT (fun _ => true) ?_; (conv => whnf)
      (cases hlt : (decide ((↑i : Int) < (↑m : Int)) : Bool) <;> (try simp only [beq_iff_eq, beq_eq_false_iff_ne, ne_eq, decide_eq_true_eq, decide_eq_false_iff_not, bne_iff_ne, bne_eq_false_iff_eq, Bool.not_eq_true, Bool.not_eq_false, gt_iff_lt, ge_iff_le] at hlt) <;> (try (exfalso; omega)))
      case' false =>
        (conv => whnf)
        (refine Turned.of [0, 1, 2, 3, 4, 5, 6] [] [⟨2, true, none, .row (rowMd ml)⟩, ⟨1, true, none, .ints .i64 os⟩, c.varE false 3 4 5, c.mapE false, c.wayE false, c.orpE false, ⟨66, false, none, .row (rowHd L)⟩] (by rfl) (by rfl) (by rfl) (by (repeat' (first | exact True.intro | exact rfl | refine And.intro ?_ ?_ | (simp [AV.ren, AV.rens, AObj.ren, Ent.ren, AV.inn, AV.inns, AObj.inn, *]; done)))) (by (repeat' (first | exact True.intro | exact rfl | refine And.intro ?_ ?_ | (simp [AV.ren, AV.rens, AObj.ren, Ent.ren, AV.inn, AV.inns, AObj.inn, *]; done)))) ?_)
        exact ⟨c, rfl, rfl⟩
      (conv => whnf)
      refine AW.seq ?_
      refine AW.block ?_
      -- the header that comes
      obtain ⟨z, hz⟩ : ∃ z, os.getD (0 + (i : Int).toNat) 0 = z := ⟨_, rfl⟩
      have hro := round_ok z ((ml.length + 1 : Nat) : Int) (by omega) (by omega)
      obtain ⟨q, hq⟩ : ∃ q : Nat, z % ((ml.length + 1 : Nat) : Int) = (q : Int) := ⟨(z % ((ml.length + 1 : Nat) : Int)).toNat, (Int.toNat_of_nonneg (Int.emod_nonneg _ (by omega))).symm⟩
      have hql : q < ml.length + 1 := by have := Int.emod_lt_of_pos z (show (0 : Int) < ((ml.length + 1 : Nat) : Int) by omega); omega
      rw [hq] at hro
      obtain ⟨h, hh⟩ : ∃ h, L.getD q default = h := ⟨_, rfl⟩
      have hrq : (rowHd L)[0 + (q : Int).toNat]? = some h.segs := by rw [Nat.zero_add, Int.toNat_natCast, ← hh]; exact hd_at L q (by omega)
      have hw : h.wf := by rw [← hh]; simp [List.getElem?_eq_getElem (show q < L.length by omega)]; exact hLw _ (List.getElem_mem _)
      have hadd := add_ok c hc ht (by omega) h hw
      obtain ⟨k2, t2⟩ := adds_inv hc ht (by omega) h hw
      have b2 := adds_best hc ht (by omega) h hw hbe
      obtain ⟨c2, hc2⟩ : ∃ c2, (addC c h).1 = c2 := ⟨_, rfl⟩
      obtain ⟨E, hE⟩ : ∃ E, (addC c h).2.1 = E := ⟨_, rfl⟩
      obtain ⟨e, he⟩ : ∃ e, (addC c h).2.2 = e := ⟨_, rfl⟩
      rw [hc2, hE, he] at hadd
      rw [hc2] at k2 t2 b2
      unfold Ch.varE Ch.mapE Ch.wayE Ch.orpE at hadd
      refine AW.cutT (fun fr hp => fr = [(1, .sl 1 0 m (some os.length)), (5, .sl 6 0 (ml.length + 1) none), (6, .ptr 2 0 0 0), (8, .int .i64 (i : Int))] ∧ hp = [⟨2, true, none, .row (rowMd ml)⟩, ⟨1, true, none, .ints .i64 os⟩, c2.varE false 3 4 5, c2.mapE false, c2.wayE false, c2.orpE false, ⟨66, false, none, .row (rowHd L)⟩]) ?_ ?_
      · unfold Ch.varE Ch.mapE Ch.wayE Ch.orpE
        refine ev_sound tokT (keep := fun _ => true) ?_
        ((conv => whnf); (repeat (((refine And.intro (by first | assumption | omega) ?_); (conv => whnf)))))
        rw [hz]
        refine AC.pure (v := .int .i64 (q : Int)) hro (by simp [AV.inns, AV.inn]) (by simp [AV.inn]) ?_
        ((conv => whnf); (repeat (((refine And.intro (by omega) ?_); (conv => whnf)))))
        rw [hrq]
        (conv => whnf)
        refine AC.frame hadd [2, 3, 4, 5] (by (repeat' (first | exact True.intro | exact rfl | refine And.intro ?_ ?_ | (simp [AV.ren, AV.rens, AObj.ren, Ent.ren, AV.inn, AV.inns, AObj.inn, *]; done)))) (by rfl) (by (repeat' (first | exact True.intro | refine And.intro ?_ ?_ | (simp [AV.ren, AV.rens, AObj.ren, Ent.ren, AV.inn, AV.inns, AObj.inn, *]; done)))) (by rfl) ?_
        rintro r0 hp0 ⟨rfl, rfl⟩
        (conv => whnf)
        (refine Turned.of [0, 1, 2, 3, 7, 8, 6] [(1, .sl 1 0 m (some os.length)), (5, .sl 6 0 (ml.length + 1) none), (6, .ptr 2 0 0 0), (8, .int .i64 (i : Int))] [⟨2, true, none, .row (rowMd ml)⟩, ⟨1, true, none, .ints .i64 os⟩, c2.varE false 3 4 5, c2.mapE false, c2.wayE false, c2.orpE false, ⟨66, false, none, .row (rowHd L)⟩] (by rfl) (by rfl) (by rfl) (by (repeat' (first | exact True.intro | exact rfl | refine And.intro ?_ ?_ | (simp [AV.ren, AV.rens, AObj.ren, Ent.ren, AV.inn, AV.inns, AObj.inn, *]; done)))) (by (repeat' (first | exact True.intro | exact rfl | refine And.intro ?_ ?_ | (simp [AV.ren, AV.rens, AObj.ren, Ent.ren, AV.inn, AV.inns, AObj.inn, *]; done)))) ?_)
        exact ⟨rfl, rfl⟩
      rintro fr hp ⟨rfl, rfl⟩
      have htip := tip_ok c2 k2.way.1 k2.wayn k2.lens
      obtain ⟨htw, K, hK, hKh⟩ := t2.tips k2.way.1
      have htl : c2.tip.length = 32 := k2.lens _ (List.mem_of_getElem? htw)
      have hwrk := fun id hid => work_ok c2 id hid
      have hhgt := fun id hid => hgt_ok c2 id hid
      have hhal := halted_ok c2 k2.way.1
      rw [b2.go] at hhal
      have hwt := hwrk c2.tip htl
      rw [hK] at hwt
      simp only [Option.getD_some, Option.isSome_some] at hwt
      have hmax : ∀ e ∈ c2.known, e.2.2.work ≤ K.work := by have := b2.max; rw [tipK_of hK] at this; exact this
      unfold Ch.varE Ch.mapE Ch.wayE Ch.orpE at htip hhal hwt
      refine AW.cutT (fun fr hp => fr = [(1, .sl 1 0 m (some os.length)), (5, .sl 6 0 (ml.length + 1) none), (6, .ptr 2 0 0 0), (8, .int .i64 (i : Int)), (9, .ptr 7 0 0 0), (10, .int .i64 ((c2.way.length : Int) - 1))] ∧ hp = [⟨2, true, none, .row (rowMd ml)⟩, ⟨1, true, none, .ints .i64 os⟩, c2.varE false 3 4 5, c2.mapE false, c2.wayE false, c2.orpE false, ⟨66, false, none, .row (rowHd L)⟩, ⟨32, false, none, .var [.ints .u8 32 c2.tip]⟩]) ?_ ?_
      · unfold Ch.varE Ch.mapE Ch.wayE Ch.orpE
        refine ev_sound tokT (keep := fun _ => true) ?_
        (conv => whnf)
        refine AC.frame htip [2, 3, 4, 5] (by (repeat' (first | exact True.intro | exact rfl | refine And.intro ?_ ?_ | (simp [AV.ren, AV.rens, AObj.ren, Ent.ren, AV.inn, AV.inns, AObj.inn, *]; done)))) (by rfl) (by (repeat' (first | exact True.intro | refine And.intro ?_ ?_ | (simp [AV.ren, AV.rens, AObj.ren, Ent.ren, AV.inn, AV.inns, AObj.inn, *]; done)))) (by rfl) ?_
        rintro r0 hp0 ⟨rfl, rfl⟩
        (conv => whnf)
        (refine Turned.of [0, 1, 2, 3, 4, 5, 6, 7] [(1, .sl 1 0 m (some os.length)), (5, .sl 6 0 (ml.length + 1) none), (6, .ptr 2 0 0 0), (8, .int .i64 (i : Int)), (9, .ptr 7 0 0 0), (10, .int .i64 ((c2.way.length : Int) - 1))] [⟨2, true, none, .row (rowMd ml)⟩, ⟨1, true, none, .ints .i64 os⟩, c2.varE false 3 4 5, c2.mapE false, c2.wayE false, c2.orpE false, ⟨66, false, none, .row (rowHd L)⟩, ⟨32, false, none, .var [.ints .u8 32 c2.tip]⟩] (by rfl) (by rfl) (by rfl) (by (repeat' (first | exact True.intro | exact rfl | refine And.intro ?_ ?_ | (simp [AV.ren, AV.rens, AObj.ren, Ent.ren, AV.inn, AV.inns, AObj.inn, *]; done)))) (by (repeat' (first | exact True.intro | exact rfl | refine And.intro ?_ ?_ | (simp [AV.ren, AV.rens, AObj.ren, Ent.ren, AV.inn, AV.inns, AObj.inn, *]; done)))) ?_)
        exact ⟨rfl, rfl⟩
      rintro fr hp ⟨rfl, rfl⟩
      refine AW.cutT (fun fr hp => fr = [(1, .sl 1 0 m (some os.length)), (5, .sl 6 0 (ml.length + 1) none), (6, .ptr 2 0 0 0), (8, .int .i64 (i : Int)), (9, .ptr 7 0 0 0), (10, .int .i64 ((c2.way.length : Int) - 1)), (11, .int .i64 K.work), (12, .bool true)] ∧ hp = [⟨2, true, none, .row (rowMd ml)⟩, ⟨1, true, none, .ints .i64 os⟩, c2.varE false 3 4 5, c2.mapE false, c2.wayE false, c2.orpE false, ⟨66, false, none, .row (rowHd L)⟩, ⟨32, false, none, .var [.ints .u8 32 c2.tip]⟩]) ?_ ?_
      · unfold Ch.varE Ch.mapE Ch.wayE Ch.orpE
        refine ev_sound tokT (keep := fun _ => true) ?_
        (conv => whnf)
        refine AC.frame hwt [2, 3, 4, 5] (by (repeat' (first | exact True.intro | exact rfl | refine And.intro ?_ ?_ | (simp [AV.ren, AV.rens, AObj.ren, Ent.ren, AV.inn, AV.inns, AObj.inn, *]; done)))) (by rfl) (by (repeat' (first | exact True.intro | refine And.intro ?_ ?_ | (simp [AV.ren, AV.rens, AObj.ren, Ent.ren, AV.inn, AV.inns, AObj.inn, *]; done)))) (by rfl) ?_
        rintro r0 hp0 ⟨rfl, rfl⟩
        (conv => whnf)
        (refine Turned.of [0, 1, 2, 3, 4, 5, 6, 7] [(1, .sl 1 0 m (some os.length)), (5, .sl 6 0 (ml.length + 1) none), (6, .ptr 2 0 0 0), (8, .int .i64 (i : Int)), (9, .ptr 7 0 0 0), (10, .int .i64 ((c2.way.length : Int) - 1)), (11, .int .i64 K.work), (12, .bool true)] [⟨2, true, none, .row (rowMd ml)⟩, ⟨1, true, none, .ints .i64 os⟩, c2.varE false 3 4 5, c2.mapE false, c2.wayE false, c2.orpE false, ⟨66, false, none, .row (rowHd L)⟩, ⟨32, false, none, .var [.ints .u8 32 c2.tip]⟩] (by rfl) (by rfl) (by rfl) (by (repeat' (first | exact True.intro | exact rfl | refine And.intro ?_ ?_ | (simp [AV.ren, AV.rens, AObj.ren, Ent.ren, AV.inn, AV.inns, AObj.inn, *]; done)))) (by (repeat' (first | exact True.intro | exact rfl | refine And.intro ?_ ?_ | (simp [AV.ren, AV.rens, AObj.ren, Ent.ren, AV.inn, AV.inns, AObj.inn, *]; done)))) ?_)
        exact ⟨rfl, rfl⟩
      rintro fr hp ⟨rfl, rfl⟩
      refine AW.cutT (fun fr hp => fr = [(1, .sl 1 0 m (some os.length)), (5, .sl 6 0 (ml.length + 1) none), (6, .ptr 2 0 0 0), (8, .int .i64 (i : Int)), (9, .ptr 7 0 0 0), (10, .int .i64 ((c2.way.length : Int) - 1)), (11, .int .i64 K.work)] ∧ hp = [⟨2, true, none, .row (rowMd ml)⟩, ⟨1, true, none, .ints .i64 os⟩, c2.varE false 3 4 5, c2.mapE false, c2.wayE false, c2.orpE false, ⟨66, false, none, .row (rowHd L)⟩, ⟨32, false, none, .var [.ints .u8 32 c2.tip]⟩]) ?_ ?_
      · unfold Ch.varE Ch.mapE Ch.wayE Ch.orpE
        refine ev_sound tokT (keep := fun _ => true) ?_
        (conv => whnf)
        refine AC.frame hhal [2, 3, 4, 5] (by (repeat' (first | exact True.intro | exact rfl | refine And.intro ?_ ?_ | (simp [AV.ren, AV.rens, AObj.ren, Ent.ren, AV.inn, AV.inns, AObj.inn, *]; done)))) (by rfl) (by (repeat' (first | exact True.intro | refine And.intro ?_ ?_ | (simp [AV.ren, AV.rens, AObj.ren, Ent.ren, AV.inn, AV.inns, AObj.inn, *]; done)))) (by rfl) ?_
        rintro r0 hp0 ⟨rfl, rfl⟩
        (conv => whnf)
        (refine Turned.of [0, 1, 2, 3, 4, 5, 6, 7] [(1, .sl 1 0 m (some os.length)), (5, .sl 6 0 (ml.length + 1) none), (6, .ptr 2 0 0 0), (8, .int .i64 (i : Int)), (9, .ptr 7 0 0 0), (10, .int .i64 ((c2.way.length : Int) - 1)), (11, .int .i64 K.work)] [⟨2, true, none, .row (rowMd ml)⟩, ⟨1, true, none, .ints .i64 os⟩, c2.varE false 3 4 5, c2.mapE false, c2.wayE false, c2.orpE false, ⟨66, false, none, .row (rowHd L)⟩, ⟨32, false, none, .var [.ints .u8 32 c2.tip]⟩] (by rfl) (by rfl) (by rfl) (by (repeat' (first | exact True.intro | exact rfl | refine And.intro ?_ ?_ | (simp [AV.ren, AV.rens, AObj.ren, Ent.ren, AV.inn, AV.inns, AObj.inn, *]; done)))) (by (repeat' (first | exact True.intro | exact rfl | refine And.intro ?_ ?_ | (simp [AV.ren, AV.rens, AObj.ren, Ent.ren, AV.inn, AV.inns, AObj.inn, *]; done)))) ?_)
        exact ⟨rfl, rfl⟩
      rintro fr hp ⟨rfl, rfl⟩
      refine AW.cutT (fun fr hp => fr = [(1, .sl 1 0 m (some os.length)), (5, .sl 6 0 (ml.length + 1) none), (6, .ptr 2 0 0 0), (8, .int .i64 (i : Int)), (9, .ptr 7 0 0 0), (10, .int .i64 ((c2.way.length : Int) - 1))] ∧ hp = [⟨2, true, none, .row (rowMd ml)⟩, ⟨1, true, none, .ints .i64 os⟩, c2.varE false 3 4 5, c2.mapE false, c2.wayE false, c2.orpE false, ⟨66, false, none, .row (rowHd L)⟩, ⟨32, false, none, .var [.ints .u8 32 c2.tip]⟩]) ?_ ?_
      · refine AW.pre tokT (fun _ => true) ?_; (conv => whnf)
        (refine AW.turnL [0, 1, 2, 3, 4, 5, 6, 7] [(1, .sl 1 0 m (some os.length)), (5, .sl 6 0 (ml.length + 1) none), (6, .ptr 2 0 0 0), (8, .int .i64 (i : Int)), (9, .ptr 7 0 0 0), (10, .int .i64 ((c2.way.length : Int) - 1)), (11, .int .i64 K.work), (13, .int .i64 0)] [⟨2, true, none, .row (rowMd ml)⟩, ⟨1, true, none, .ints .i64 os⟩, c2.varE false 3 4 5, c2.mapE false, c2.wayE false, c2.orpE false, ⟨66, false, none, .row (rowHd L)⟩, ⟨32, false, none, .var [.ints .u8 32 c2.tip]⟩] (by rfl) (by rfl) (by rfl) (by (repeat' (first | exact True.intro | exact rfl | refine And.intro ?_ ?_ | (simp [AV.ren, AV.rens, AObj.ren, Ent.ren, AV.inn, AV.inns, AObj.inn, *]; done)))) (by (repeat' (first | exact True.intro | exact rfl | refine And.intro ?_ ?_ | (simp [AV.ren, AV.rens, AObj.ren, Ent.ren, AV.inn, AV.inns, AObj.inn, *]; done)))) ?_)
        refine AW.block ?_
        refine AW.loop (fun u fr hp => ∃ j : Nat, u = ml.length + 1 - j ∧ j ≤ ml.length + 1 ∧ fr = [(1, .sl 1 0 m (some os.length)), (5, .sl 6 0 (ml.length + 1) none), (6, .ptr 2 0 0 0), (8, .int .i64 (i : Int)), (9, .ptr 7 0 0 0), (10, .int .i64 ((c2.way.length : Int) - 1)), (11, .int .i64 K.work), (13, .int .i64 (j : Int))] ∧ hp = [⟨2, true, none, .row (rowMd ml)⟩, ⟨1, true, none, .ints .i64 os⟩, c2.varE false 3 4 5, c2.mapE false, c2.wayE false, c2.orpE false, ⟨66, false, none, .row (rowHd L)⟩, ⟨32, false, none, .var [.ints .u8 32 c2.tip]⟩]) (ml.length + 1) ?_ ?_
        · exact ⟨0, by omega, by omega, rfl, rfl⟩
        · rintro u fr hp ⟨j, rfl, hj, rfl, rfl⟩ -
          refine AW.post ?_
          unfold Ch.varE Ch.mapE Ch.wayE Ch.orpE
          refine AW.pre tokT (fun _ => true) ?_; (conv => whnf)
          by_cases hjl : j < ml.length + 1
          case neg =>
            rw [decide_eq_false (show ¬ (j : Int) < ((ml.length + 1 : Nat) : Int) by omega)]
            (conv => whnf)
            (refine Turned.of [0, 1, 2, 3, 4, 5, 6, 7] [(1, .sl 1 0 m (some os.length)), (5, .sl 6 0 (ml.length + 1) none), (6, .ptr 2 0 0 0), (8, .int .i64 (i : Int)), (9, .ptr 7 0 0 0), (10, .int .i64 ((c2.way.length : Int) - 1))] [⟨2, true, none, .row (rowMd ml)⟩, ⟨1, true, none, .ints .i64 os⟩, c2.varE false 3 4 5, c2.mapE false, c2.wayE false, c2.orpE false, ⟨66, false, none, .row (rowHd L)⟩, ⟨32, false, none, .var [.ints .u8 32 c2.tip]⟩] (by rfl) (by rfl) (by rfl) (by (repeat' (first | exact True.intro | exact rfl | refine And.intro ?_ ?_ | (simp [AV.ren, AV.rens, AObj.ren, Ent.ren, AV.inn, AV.inns, AObj.inn, *]; done)))) (by (repeat' (first | exact True.intro | exact rfl | refine And.intro ?_ ?_ | (simp [AV.ren, AV.rens, AObj.ren, Ent.ren, AV.inn, AV.inns, AObj.inn, *]; done)))) ?_)
            exact ⟨rfl, rfl⟩
          rw [decide_eq_true (show (j : Int) < ((ml.length + 1 : Nat) : Int) by omega)]
          (conv => whnf)
          obtain ⟨hx, hhx⟩ : ∃ hx, L.getD j default = hx := ⟨_, rfl⟩
          have hrj : (rowHd L)[0 + (j : Int).toNat]? = some hx.segs := by rw [Nat.zero_add, Int.toNat_natCast, ← hhx]; exact hd_at L j (by omega)
          have hxw : hx.wf := by rw [← hhx]; simp [List.getElem?_eq_getElem (show j < L.length by omega)]; exact hLw _ (List.getElem_mem _)
          have hri := refid_ok hx hxw
          have hwj := hwrk (hidOf hx) (hid_len hx)
          obtain ⟨idj, hidj⟩ : ∃ x, hidOf hx = x := ⟨_, rfl⟩
          rw [hidj] at hri hwj
          refine AW.cutT (fun fr hp => fr = [(1, .sl 1 0 m (some os.length)), (5, .sl 6 0 (ml.length + 1) none), (6, .ptr 2 0 0 0), (8, .int .i64 (i : Int)), (9, .ptr 7 0 0 0), (10, .int .i64 ((c2.way.length : Int) - 1)), (11, .int .i64 K.work), (13, .int .i64 (j : Int))] ∧ hp = [⟨2, true, none, .row (rowMd ml)⟩, ⟨1, true, none, .ints .i64 os⟩, c2.varE false 3 4 5, c2.mapE false, c2.wayE false, c2.orpE false, ⟨66, false, none, .row (rowHd L)⟩, ⟨32, false, none, .var [.ints .u8 32 c2.tip]⟩]) ?_ ?_
          · cases hf : findK idj c2.known with
            | none =>
              rw [hf] at hwj
              simp only [Option.getD_none, Option.isSome_none] at hwj
              unfold Ch.varE Ch.mapE Ch.wayE Ch.orpE at hwj
              refine ev_sound tokT (keep := fun _ => true) ?_
              ((conv => whnf); (repeat (((refine And.intro (by omega) ?_); (conv => whnf)))))
              rw [hrj]
              (conv => whnf)
              refine AC.pure (v := .agg [.ints .u8 32 idj]) hri (by simp [AV.inns, AV.inn]) (by simp [AV.inn, AV.inns]) ?_
              (conv => whnf)
              refine AC.frame hwj [2, 3, 4, 5] (by (repeat' (first | exact True.intro | exact rfl | refine And.intro ?_ ?_ | (simp [AV.ren, AV.rens, AObj.ren, Ent.ren, AV.inn, AV.inns, AObj.inn, *]; done)))) (by rfl) (by (repeat' (first | exact True.intro | refine And.intro ?_ ?_ | (simp [AV.ren, AV.rens, AObj.ren, Ent.ren, AV.inn, AV.inns, AObj.inn, *]; done)))) (by rfl) ?_
              rintro r0 hp0 ⟨rfl, rfl⟩
              (conv => whnf)
              (refine Turned.of [0, 1, 2, 3, 4, 5, 6, 7] [(1, .sl 1 0 m (some os.length)), (5, .sl 6 0 (ml.length + 1) none), (6, .ptr 2 0 0 0), (8, .int .i64 (i : Int)), (9, .ptr 7 0 0 0), (10, .int .i64 ((c2.way.length : Int) - 1)), (11, .int .i64 K.work), (13, .int .i64 (j : Int))] [⟨2, true, none, .row (rowMd ml)⟩, ⟨1, true, none, .ints .i64 os⟩, c2.varE false 3 4 5, c2.mapE false, c2.wayE false, c2.orpE false, ⟨66, false, none, .row (rowHd L)⟩, ⟨32, false, none, .var [.ints .u8 32 c2.tip]⟩] (by rfl) (by rfl) (by rfl) (by (repeat' (first | exact True.intro | exact rfl | refine And.intro ?_ ?_ | (simp [AV.ren, AV.rens, AObj.ren, Ent.ren, AV.inn, AV.inns, AObj.inn, *]; done)))) (by (repeat' (first | exact True.intro | exact rfl | refine And.intro ?_ ?_ | (simp [AV.ren, AV.rens, AObj.ren, Ent.ren, AV.inn, AV.inns, AObj.inn, *]; done)))) ?_)
              exact ⟨rfl, rfl⟩
            | some x =>
              rw [hf] at hwj
              simp only [Option.getD_some, Option.isSome_some] at hwj
              unfold Ch.varE Ch.mapE Ch.wayE Ch.orpE at hwj
              obtain ⟨bx, hbx⟩ := findK_mem hf
              have hle := hmax _ hbx
              simp only [] at hle
              refine ev_sound tokT (keep := fun _ => true) ?_
              ((conv => whnf); (repeat (((refine And.intro (by omega) ?_); (conv => whnf)))))
              rw [hrj]
              (conv => whnf)
              refine AC.pure (v := .agg [.ints .u8 32 idj]) hri (by simp [AV.inns, AV.inn]) (by simp [AV.inn, AV.inns]) ?_
              (conv => whnf)
              refine AC.frame hwj [2, 3, 4, 5] (by (repeat' (first | exact True.intro | exact rfl | refine And.intro ?_ ?_ | (simp [AV.ren, AV.rens, AObj.ren, Ent.ren, AV.inn, AV.inns, AObj.inn, *]; done)))) (by rfl) (by (repeat' (first | exact True.intro | refine And.intro ?_ ?_ | (simp [AV.ren, AV.rens, AObj.ren, Ent.ren, AV.inn, AV.inns, AObj.inn, *]; done)))) (by rfl) ?_
              rintro r0 hp0 ⟨rfl, rfl⟩
              (conv => whnf)
              rw [decide_eq_false (show ¬ x.work > K.work by omega)]
              (conv => whnf)
              (refine Turned.of [0, 1, 2, 3, 4, 5, 6, 7] [(1, .sl 1 0 m (some os.length)), (5, .sl 6 0 (ml.length + 1) none), (6, .ptr 2 0 0 0), (8, .int .i64 (i : Int)), (9, .ptr 7 0 0 0), (10, .int .i64 ((c2.way.length : Int) - 1)), (11, .int .i64 K.work), (13, .int .i64 (j : Int))] [⟨2, true, none, .row (rowMd ml)⟩, ⟨1, true, none, .ints .i64 os⟩, c2.varE false 3 4 5, c2.mapE false, c2.wayE false, c2.orpE false, ⟨66, false, none, .row (rowHd L)⟩, ⟨32, false, none, .var [.ints .u8 32 c2.tip]⟩] (by rfl) (by rfl) (by rfl) (by (repeat' (first | exact True.intro | exact rfl | refine And.intro ?_ ?_ | (simp [AV.ren, AV.rens, AObj.ren, Ent.ren, AV.inn, AV.inns, AObj.inn, *]; done)))) (by (repeat' (first | exact True.intro | exact rfl | refine And.intro ?_ ?_ | (simp [AV.ren, AV.rens, AObj.ren, Ent.ren, AV.inn, AV.inns, AObj.inn, *]; done)))) ?_)
              exact ⟨rfl, rfl⟩
          rintro fr hp ⟨rfl, rfl⟩
          refine ev_sound tokT (keep := fun _ => true) ?_
          (conv => whnf)
          rw [IntWalk.i64_in ((j : Int) + 1) (by omega)]
          (refine Turned.of [0, 1, 2, 3, 4, 5, 6, 7] [(1, .sl 1 0 m (some os.length)), (5, .sl 6 0 (ml.length + 1) none), (6, .ptr 2 0 0 0), (8, .int .i64 (i : Int)), (9, .ptr 7 0 0 0), (10, .int .i64 ((c2.way.length : Int) - 1)), (11, .int .i64 K.work), (13, .int .i64 ((j + 1 : Nat) : Int))] [⟨2, true, none, .row (rowMd ml)⟩, ⟨1, true, none, .ints .i64 os⟩, c2.varE false 3 4 5, c2.mapE false, c2.wayE false, c2.orpE false, ⟨66, false, none, .row (rowHd L)⟩, ⟨32, false, none, .var [.ints .u8 32 c2.tip]⟩] (by rfl) (by rfl) (by rfl) (by (repeat' (first | exact True.intro | exact rfl | refine And.intro ?_ ?_ | (simp [AV.ren, AV.rens, AObj.ren, Ent.ren, AV.inn, AV.inns, AObj.inn, *]; done)))) (by (repeat' (first | exact True.intro | exact rfl | refine And.intro ?_ ?_ | (simp [AV.ren, AV.rens, AObj.ren, Ent.ren, AV.inn, AV.inns, AObj.inn, *]; done)))) ?_)
          exact ⟨ml.length + 1 - (j + 1), by omega, j + 1, rfl, by omega, rfl, rfl⟩
      rintro fr hp ⟨rfl, rfl⟩
      refine AW.endT (fun fr hp => fr = [(1, .sl 1 0 m (some os.length)), (5, .sl 6 0 (ml.length + 1) none), (6, .ptr 2 0 0 0), (8, .int .i64 (i : Int))] ∧ hp = [⟨2, true, none, .row (rowMd ml)⟩, ⟨1, true, none, .ints .i64 os⟩, c2.varE false 3 4 5, c2.mapE false, c2.wayE false, c2.orpE false, ⟨66, false, none, .row (rowHd L)⟩]) ?_ ?_
      · refine AW.pre tokT (fun _ => true) ?_; (conv => whnf)
        rw [show (c2.way.length : Int) - 1 = ((c2.way.length : Nat) : Int) - 1 from rfl]
        (refine AW.turnL [0, 1, 2, 3, 4, 5, 6, 7] [(1, .sl 1 0 m (some os.length)), (5, .sl 6 0 (ml.length + 1) none), (6, .ptr 2 0 0 0), (8, .int .i64 (i : Int)), (9, .ptr 7 0 0 0), (10, .int .i64 ((c2.way.length : Int) - 1)), (16, .int .i64 ((c2.way.length : Int) - 1))] [⟨2, true, none, .row (rowMd ml)⟩, ⟨1, true, none, .ints .i64 os⟩, c2.varE false 3 4 5, c2.mapE false, c2.wayE false, c2.orpE false, ⟨66, false, none, .row (rowHd L)⟩, ⟨32, false, none, .var [.ints .u8 32 c2.tip]⟩] (by rfl) (by rfl) (by rfl) (by (repeat' (first | exact True.intro | exact rfl | refine And.intro ?_ ?_ | (simp [AV.ren, AV.rens, AObj.ren, Ent.ren, AV.inn, AV.inns, AObj.inn, *]; done)))) (by (repeat' (first | exact True.intro | exact rfl | refine And.intro ?_ ?_ | (simp [AV.ren, AV.rens, AObj.ren, Ent.ren, AV.inn, AV.inns, AObj.inn, *]; done)))) ?_)
        refine AW.block ?_
        refine AW.loop (fun u fr hp => u ≤ c2.way.length ∧ fr = [(1, .sl 1 0 m (some os.length)), (5, .sl 6 0 (ml.length + 1) none), (6, .ptr 2 0 0 0), (8, .int .i64 (i : Int)), (9, .ptr 7 0 0 0), (10, .int .i64 ((c2.way.length : Int) - 1)), (16, .int .i64 ((u : Int) - 1))] ∧ hp = [⟨2, true, none, .row (rowMd ml)⟩, ⟨1, true, none, .ints .i64 os⟩, c2.varE false 3 4 5, c2.mapE false, c2.wayE false, c2.orpE false, ⟨66, false, none, .row (rowHd L)⟩, ⟨32, false, none, .var [.ints .u8 32 c2.tip]⟩]) c2.way.length ?_ ?_
        · exact ⟨Nat.le_refl _, rfl, rfl⟩
        · rintro u fr hp ⟨hu, rfl, rfl⟩ -
          have hwn := k2.wayn
          refine AW.post ?_
          unfold Ch.varE Ch.mapE Ch.wayE Ch.orpE
          refine AW.pre tokT (fun _ => true) ?_; (conv => whnf)
          cases u with
          | zero =>
            rw [decide_eq_false (show ¬ ((0 : Nat) : Int) - 1 ≥ 0 by omega)]
            (conv => whnf)
            (refine Turned.of [0, 1, 2, 3, 4, 5, 6] [(1, .sl 1 0 m (some os.length)), (5, .sl 6 0 (ml.length + 1) none), (6, .ptr 2 0 0 0), (8, .int .i64 (i : Int))] [⟨2, true, none, .row (rowMd ml)⟩, ⟨1, true, none, .ints .i64 os⟩, c2.varE false 3 4 5, c2.mapE false, c2.wayE false, c2.orpE false, ⟨66, false, none, .row (rowHd L)⟩] (by rfl) (by rfl) (by rfl) (by (repeat' (first | exact True.intro | exact rfl | refine And.intro ?_ ?_ | (simp [AV.ren, AV.rens, AObj.ren, Ent.ren, AV.inn, AV.inns, AObj.inn, *]; done)))) (by (repeat' (first | exact True.intro | exact rfl | refine And.intro ?_ ?_ | (simp [AV.ren, AV.rens, AObj.ren, Ent.ren, AV.inn, AV.inns, AObj.inn, *]; done)))) ?_)
            exact ⟨rfl, rfl⟩
          | succ r =>
            have hr1 : ((r + 1 : Nat) : Int) - 1 = (r : Int) := by omega
            simp only [hr1]
            rw [decide_eq_true (show (r : Int) ≥ 0 by omega)]
            (conv => whnf)
            obtain ⟨id, hid⟩ : ∃ id, c2.way.getD r [] = id := ⟨_, rfl⟩
            have hwr : c2.way[r]? = some id := by rw [← hid]; simp [List.getElem?_eq_getElem (show r < c2.way.length by omega)]
            obtain ⟨x, hx, hxh, _⟩ := t2.way r id hwr
            have hidl : id.length = 32 := k2.lens _ (List.mem_of_getElem? hwr)
            have hat := at_ok c2 (r : Int) (by omega) k2.wayn
            rw [if_pos (show (r : Int) < c2.way.length by omega), decide_eq_true (show (r : Int) < c2.way.length by omega), Int.toNat_natCast, hid] at hat
            have hht := hhgt id hidl
            rw [hx] at hht
            simp only [Option.getD_some, Option.isSome_some] at hht
            rw [hxh] at hht
            unfold Ch.varE Ch.mapE Ch.wayE Ch.orpE at hat hht
            refine AW.seq ?_
            refine AW.block ?_
            refine AW.cutT (fun fr hp => fr = [(1, .sl 1 0 m (some os.length)), (5, .sl 6 0 (ml.length + 1) none), (6, .ptr 2 0 0 0), (8, .int .i64 (i : Int)), (9, .ptr 7 0 0 0), (10, .int .i64 ((c2.way.length : Int) - 1)), (16, .int .i64 (r : Int)), (17, .ptr 8 0 0 0), (18, .bool true)] ∧ hp = [⟨2, true, none, .row (rowMd ml)⟩, ⟨1, true, none, .ints .i64 os⟩, c2.varE false 3 4 5, c2.mapE false, c2.wayE false, c2.orpE false, ⟨66, false, none, .row (rowHd L)⟩, ⟨32, false, none, .var [.ints .u8 32 c2.tip]⟩, ⟨32, false, none, .var [.ints .u8 32 id]⟩]) ?_ ?_
            · refine ev_sound tokT (keep := fun _ => true) ?_
              (conv => whnf)
              refine AC.frame hat [2, 3, 4, 5] (by (repeat' (first | exact True.intro | exact rfl | refine And.intro ?_ ?_ | (simp [AV.ren, AV.rens, AObj.ren, Ent.ren, AV.inn, AV.inns, AObj.inn, *]; done)))) (by rfl) (by (repeat' (first | exact True.intro | refine And.intro ?_ ?_ | (simp [AV.ren, AV.rens, AObj.ren, Ent.ren, AV.inn, AV.inns, AObj.inn, *]; done)))) (by rfl) ?_
              rintro r0 hp0 ⟨rfl, rfl⟩
              (conv => whnf)
              (refine Turned.of [0, 1, 2, 3, 4, 5, 6, 7, 8] [(1, .sl 1 0 m (some os.length)), (5, .sl 6 0 (ml.length + 1) none), (6, .ptr 2 0 0 0), (8, .int .i64 (i : Int)), (9, .ptr 7 0 0 0), (10, .int .i64 ((c2.way.length : Int) - 1)), (16, .int .i64 (r : Int)), (17, .ptr 8 0 0 0), (18, .bool true)] [⟨2, true, none, .row (rowMd ml)⟩, ⟨1, true, none, .ints .i64 os⟩, c2.varE false 3 4 5, c2.mapE false, c2.wayE false, c2.orpE false, ⟨66, false, none, .row (rowHd L)⟩, ⟨32, false, none, .var [.ints .u8 32 c2.tip]⟩, ⟨32, false, none, .var [.ints .u8 32 id]⟩] (by rfl) (by rfl) (by rfl) (by (repeat' (first | exact True.intro | exact rfl | refine And.intro ?_ ?_ | (simp [AV.ren, AV.rens, AObj.ren, Ent.ren, AV.inn, AV.inns, AObj.inn, *]; done)))) (by (repeat' (first | exact True.intro | exact rfl | refine And.intro ?_ ?_ | (simp [AV.ren, AV.rens, AObj.ren, Ent.ren, AV.inn, AV.inns, AObj.inn, *]; done)))) ?_)
              exact ⟨rfl, rfl⟩
            rintro fr hp ⟨rfl, rfl⟩
            refine AW.cutT (fun fr hp => fr = [(1, .sl 1 0 m (some os.length)), (5, .sl 6 0 (ml.length + 1) none), (6, .ptr 2 0 0 0), (8, .int .i64 (i : Int)), (9, .ptr 7 0 0 0), (10, .int .i64 ((c2.way.length : Int) - 1)), (16, .int .i64 (r : Int)), (17, .ptr 8 0 0 0), (18, .bool true), (19, .int .i64 (r : Int)), (20, .bool true)] ∧ hp = [⟨2, true, none, .row (rowMd ml)⟩, ⟨1, true, none, .ints .i64 os⟩, c2.varE false 3 4 5, c2.mapE false, c2.wayE false, c2.orpE false, ⟨66, false, none, .row (rowHd L)⟩, ⟨32, false, none, .var [.ints .u8 32 c2.tip]⟩, ⟨32, false, none, .var [.ints .u8 32 id]⟩]) ?_ ?_
            · unfold Ch.varE Ch.mapE Ch.wayE Ch.orpE
              refine ev_sound tokT (keep := fun _ => true) ?_
              (conv => whnf)
              refine AC.frame hht [2, 3, 4, 5] (by (repeat' (first | exact True.intro | exact rfl | refine And.intro ?_ ?_ | (simp [AV.ren, AV.rens, AObj.ren, Ent.ren, AV.inn, AV.inns, AObj.inn, *]; done)))) (by rfl) (by (repeat' (first | exact True.intro | refine And.intro ?_ ?_ | (simp [AV.ren, AV.rens, AObj.ren, Ent.ren, AV.inn, AV.inns, AObj.inn, *]; done)))) (by rfl) ?_
              rintro r0 hp0 ⟨rfl, rfl⟩
              (conv => whnf)
              (refine Turned.of [0, 1, 2, 3, 4, 5, 6, 7, 8] [(1, .sl 1 0 m (some os.length)), (5, .sl 6 0 (ml.length + 1) none), (6, .ptr 2 0 0 0), (8, .int .i64 (i : Int)), (9, .ptr 7 0 0 0), (10, .int .i64 ((c2.way.length : Int) - 1)), (16, .int .i64 (r : Int)), (17, .ptr 8 0 0 0), (18, .bool true), (19, .int .i64 (r : Int)), (20, .bool true)] [⟨2, true, none, .row (rowMd ml)⟩, ⟨1, true, none, .ints .i64 os⟩, c2.varE false 3 4 5, c2.mapE false, c2.wayE false, c2.orpE false, ⟨66, false, none, .row (rowHd L)⟩, ⟨32, false, none, .var [.ints .u8 32 c2.tip]⟩, ⟨32, false, none, .var [.ints .u8 32 id]⟩] (by rfl) (by rfl) (by rfl) (by (repeat' (first | exact True.intro | exact rfl | refine And.intro ?_ ?_ | (simp [AV.ren, AV.rens, AObj.ren, Ent.ren, AV.inn, AV.inns, AObj.inn, *]; done)))) (by (repeat' (first | exact True.intro | exact rfl | refine And.intro ?_ ?_ | (simp [AV.ren, AV.rens, AObj.ren, Ent.ren, AV.inn, AV.inns, AObj.inn, *]; done)))) ?_)
              exact ⟨rfl, rfl⟩
            rintro fr hp ⟨rfl, rfl⟩
            obtain ⟨I26, hI26⟩ : ∃ I : Fr → Hp → Prop, I = fun fr hp => fr = [(1, .sl 1 0 m (some os.length)), (5, .sl 6 0 (ml.length + 1) none), (6, .ptr 2 0 0 0), (8, .int .i64 (i : Int)), (9, .ptr 7 0 0 0), (10, .int .i64 ((c2.way.length : Int) - 1)), (16, .int .i64 (r : Int)), (151, .bool false)] ∧ hp = [⟨2, true, none, .row (rowMd ml)⟩, ⟨1, true, none, .ints .i64 os⟩, c2.varE false 3 4 5, c2.mapE false, c2.wayE false, c2.orpE false, ⟨66, false, none, .row (rowHd L)⟩, ⟨32, false, none, .var [.ints .u8 32 c2.tip]⟩] := ⟨_, rfl⟩
            obtain ⟨v2, hv2⟩ : ∃ x, c2.varE false 3 4 5 = x := ⟨_, rfl⟩
            obtain ⟨v3, hv3⟩ : ∃ x, c2.mapE false = x := ⟨_, rfl⟩
            obtain ⟨v4, hv4⟩ : ∃ x, c2.wayE false = x := ⟨_, rfl⟩
            obtain ⟨v5, hv5⟩ : ∃ x, c2.orpE false = x := ⟨_, rfl⟩
            rw [hv2, hv3, hv4, hv5]
            refine AW.cutT I26 ?_ ?_
            · have hrr : ((r : Int) == (r : Int)) = true := by simp
              have hz0 : r ≠ 0 → ((r : Int) == 0) = false := fun q => beq_eq_false_iff_ne.2 (by omega)
              have ht1 : ((r : Int) == (c2.way.length : Int) - 1) = true → id = c2.tip := fun q => by
                have : r = c2.way.length - 1 := by have := of_decide_eq_true (p := (r : Int) = (c2.way.length : Int) - 1) (by simpa using q); omega
                rw [← hid, this]; rfl
              have hg0 : r = 0 → id = hidOf gen0 := fun q => by
                have := b2.gen
                rw [← q, hwr] at this
                exact Option.some.inj this
              refine AW.drawT (.pure 0 (.pure 1 (.pure 2 (.pure 3 (.pure 4 (.pure 5 (.pure 6 (.pure 7 (.pure 8 (.pure 9 (.pure 10 (.pure 11 (.pure 12 (.pure 13 (.pure 14 (.pure 15 (.pure 16 (.pure 17 (.pure 18 (.pure 19 (.pure 20 (.pure 21 (.pure 22 (.pure 23 (.pure 24 (.pure 25 (.pure 26 (.pure 27 (.pure 28 (.one 29 (.pure 30 (.pure 31 (.pure 32 .fin))))))))))))))))))))))))))))))))) (keep := fun _ => true) mixed_okC tokT (by kernel_rfl) (by kernel_rfl) ?_
              have hnn : ((r : Int) != (r : Int)) = false := by simp
              (conv => whnf); (repeat (refine Exists.intro _ (And.intro (by (conv => whnf); exact ⟨rfl, rfl⟩) ?_); (conv => whnf)))
              rw [hnn]
              (conv => whnf); (repeat (refine Exists.intro _ (And.intro (by (conv => whnf); exact ⟨rfl, rfl⟩) ?_); (conv => whnf)))
              cases hb1 : ((r : Int) == (c2.way.length : Int) - 1) with
              | true =>
                have hti := ht1 hb1
                subst hti
                have hii : (c2.tip == c2.tip) = true := by simp
                (conv => whnf); (repeat (refine Exists.intro _ (And.intro (by (conv => whnf); exact ⟨rfl, rfl⟩) ?_); (conv => whnf)))
                rw [hii]
                (conv => whnf); (repeat (refine Exists.intro _ (And.intro (by (conv => whnf); exact ⟨rfl, rfl⟩) ?_); (conv => whnf)))
                cases hb0 : ((r : Int) == 0) with
                | true =>
                  (conv => whnf); (repeat (refine Exists.intro _ (And.intro (by (conv => whnf); exact ⟨rfl, rfl⟩) ?_); (conv => whnf)))
                  refine Exists.intro _ (And.intro (by (conv => whnf); exact ⟨by omega, by omega, rfl, rfl⟩) ?_)
                  (conv => whnf)
                  refine Exists.intro gen0.av (And.intro (by (conv => whnf); rw [hrL0]; exact ⟨rfl, rfl⟩) ?_)
                  (conv => whnf)
                  refine AC.pure (v := .agg [.ints .u8 32 (hidOf gen0)]) hri0 (by simp [AV.inns, AV.inn]) (by simp [AV.inn, AV.inns]) ?_
                  (conv => whnf)
                  ((conv => whnf); (repeat (first | ((with_reducible (refine And.intro (show Go.Aw.againsK _ _ _ _ _ from ?_) ?_)); (focus (repeat' (first | ((with_reducible (show Go.Aw.againsK _ _ _ _ _)); (conv => whnf)) | ((with_reducible (show Go.Aw.againK _ _ _ _ _)); (conv => whnf)) | (with_reducible (exact True.intro)) | (with_reducible (refine And.intro ?_ ?_)) | exact rfl | omega | (simp; done) | (simp [*]; done)))); (conv => whnf)) | ((refine Exists.intro _ (And.intro (by ((conv => whnf); (repeat ((refine And.intro (by exact rfl) ?_); (conv => whnf))))) ?_)); (conv => whnf)))))
                  have hr0 : r = 0 := by have := of_decide_eq_true (p := (r : Int) = 0) (by simpa using hb0); omega
                  have hE : (c2.tip == hidOf gen0 && true) = true := by rw [hg0 hr0]; simp
                  rw [hE]
                  rw [hI26]
                  subst hv2 hv3 hv4 hv5
                  (refine Turned.of [0, 1, 2, 3, 4, 5, 6, 7] [(1, .sl 1 0 m (some os.length)), (5, .sl 6 0 (ml.length + 1) none), (6, .ptr 2 0 0 0), (8, .int .i64 (i : Int)), (9, .ptr 7 0 0 0), (10, .int .i64 ((c2.way.length : Int) - 1)), (16, .int .i64 (r : Int)), (151, .bool false)] [⟨2, true, none, .row (rowMd ml)⟩, ⟨1, true, none, .ints .i64 os⟩, c2.varE false 3 4 5, c2.mapE false, c2.wayE false, c2.orpE false, ⟨66, false, none, .row (rowHd L)⟩, ⟨32, false, none, .var [.ints .u8 32 c2.tip]⟩] (by rfl) (by rfl) (by rfl) (by (repeat' (first | exact True.intro | exact rfl | refine And.intro ?_ ?_ | (simp [AV.ren, AV.rens, AObj.ren, Ent.ren, AV.inn, AV.inns, AObj.inn, *]; done)))) (by (repeat' (first | exact True.intro | exact rfl | refine And.intro ?_ ?_ | (simp [AV.ren, AV.rens, AObj.ren, Ent.ren, AV.inn, AV.inns, AObj.inn, *]; done)))) ?_)
                  exact ⟨rfl, rfl⟩
                | false =>
                  (conv => whnf); (repeat (refine Exists.intro _ (And.intro (by (conv => whnf); exact ⟨rfl, rfl⟩) ?_); (conv => whnf)))
                  ((conv => whnf); (repeat (first | ((with_reducible (refine And.intro (show Go.Aw.againsK _ _ _ _ _ from ?_) ?_)); (focus (repeat' (first | ((with_reducible (show Go.Aw.againsK _ _ _ _ _)); (conv => whnf)) | ((with_reducible (show Go.Aw.againK _ _ _ _ _)); (conv => whnf)) | (with_reducible (exact True.intro)) | (with_reducible (refine And.intro ?_ ?_)) | exact rfl | (simp; done) | (simp [*]; done)))); (conv => whnf)) | ((refine Exists.intro _ (And.intro (by ((conv => whnf); (repeat ((refine And.intro (by exact rfl) ?_); (conv => whnf))))) ?_)); (conv => whnf)))))
                  rw [hI26]
                  subst hv2 hv3 hv4 hv5
                  (refine Turned.of [0, 1, 2, 3, 4, 5, 6, 7] [(1, .sl 1 0 m (some os.length)), (5, .sl 6 0 (ml.length + 1) none), (6, .ptr 2 0 0 0), (8, .int .i64 (i : Int)), (9, .ptr 7 0 0 0), (10, .int .i64 ((c2.way.length : Int) - 1)), (16, .int .i64 (r : Int)), (151, .bool false)] [⟨2, true, none, .row (rowMd ml)⟩, ⟨1, true, none, .ints .i64 os⟩, c2.varE false 3 4 5, c2.mapE false, c2.wayE false, c2.orpE false, ⟨66, false, none, .row (rowHd L)⟩, ⟨32, false, none, .var [.ints .u8 32 c2.tip]⟩] (by rfl) (by rfl) (by rfl) (by (repeat' (first | exact True.intro | exact rfl | refine And.intro ?_ ?_ | (simp [AV.ren, AV.rens, AObj.ren, Ent.ren, AV.inn, AV.inns, AObj.inn, *]; done)))) (by (repeat' (first | exact True.intro | exact rfl | refine And.intro ?_ ?_ | (simp [AV.ren, AV.rens, AObj.ren, Ent.ren, AV.inn, AV.inns, AObj.inn, *]; done)))) ?_)
                  exact ⟨rfl, rfl⟩
              | false =>
                (conv => whnf); (repeat (refine Exists.intro _ (And.intro (by (conv => whnf); exact ⟨rfl, rfl⟩) ?_); (conv => whnf)))
                cases hb0 : ((r : Int) == 0) with
                | true =>
                  (conv => whnf); (repeat (refine Exists.intro _ (And.intro (by (conv => whnf); exact ⟨rfl, rfl⟩) ?_); (conv => whnf)))
                  refine Exists.intro _ (And.intro (by (conv => whnf); exact ⟨by omega, by omega, rfl, rfl⟩) ?_)
                  (conv => whnf)
                  refine Exists.intro gen0.av (And.intro (by (conv => whnf); rw [hrL0]; exact ⟨rfl, rfl⟩) ?_)
                  (conv => whnf)
                  refine AC.pure (v := .agg [.ints .u8 32 (hidOf gen0)]) hri0 (by simp [AV.inns, AV.inn]) (by simp [AV.inn, AV.inns]) ?_
                  (conv => whnf)
                  ((conv => whnf); (repeat (first | ((with_reducible (refine And.intro (show Go.Aw.againsK _ _ _ _ _ from ?_) ?_)); (focus (repeat' (first | ((with_reducible (show Go.Aw.againsK _ _ _ _ _)); (conv => whnf)) | ((with_reducible (show Go.Aw.againK _ _ _ _ _)); (conv => whnf)) | (with_reducible (exact True.intro)) | (with_reducible (refine And.intro ?_ ?_)) | exact rfl | omega | (simp; done) | (simp [*]; done)))); (conv => whnf)) | ((refine Exists.intro _ (And.intro (by ((conv => whnf); (repeat ((refine And.intro (by exact rfl) ?_); (conv => whnf))))) ?_)); (conv => whnf)))))
                  have hr0 : r = 0 := by have := of_decide_eq_true (p := (r : Int) = 0) (by simpa using hb0); omega
                  have hE : (id == hidOf gen0 && true) = true := by rw [hg0 hr0]; simp
                  rw [hE]
                  rw [hI26]
                  subst hv2 hv3 hv4 hv5
                  (refine Turned.of [0, 1, 2, 3, 4, 5, 6, 7] [(1, .sl 1 0 m (some os.length)), (5, .sl 6 0 (ml.length + 1) none), (6, .ptr 2 0 0 0), (8, .int .i64 (i : Int)), (9, .ptr 7 0 0 0), (10, .int .i64 ((c2.way.length : Int) - 1)), (16, .int .i64 (r : Int)), (151, .bool false)] [⟨2, true, none, .row (rowMd ml)⟩, ⟨1, true, none, .ints .i64 os⟩, c2.varE false 3 4 5, c2.mapE false, c2.wayE false, c2.orpE false, ⟨66, false, none, .row (rowHd L)⟩, ⟨32, false, none, .var [.ints .u8 32 c2.tip]⟩] (by rfl) (by rfl) (by rfl) (by (repeat' (first | exact True.intro | exact rfl | refine And.intro ?_ ?_ | (simp [AV.ren, AV.rens, AObj.ren, Ent.ren, AV.inn, AV.inns, AObj.inn, *]; done)))) (by (repeat' (first | exact True.intro | exact rfl | refine And.intro ?_ ?_ | (simp [AV.ren, AV.rens, AObj.ren, Ent.ren, AV.inn, AV.inns, AObj.inn, *]; done)))) ?_)
                  exact ⟨rfl, rfl⟩
                | false =>
                  (conv => whnf); (repeat (refine Exists.intro _ (And.intro (by (conv => whnf); exact ⟨rfl, rfl⟩) ?_); (conv => whnf)))
                  ((conv => whnf); (repeat (first | ((with_reducible (refine And.intro (show Go.Aw.againsK _ _ _ _ _ from ?_) ?_)); (focus (repeat' (first | ((with_reducible (show Go.Aw.againsK _ _ _ _ _)); (conv => whnf)) | ((with_reducible (show Go.Aw.againK _ _ _ _ _)); (conv => whnf)) | (with_reducible (exact True.intro)) | (with_reducible (refine And.intro ?_ ?_)) | exact rfl | (simp; done) | (simp [*]; done)))); (conv => whnf)) | ((refine Exists.intro _ (And.intro (by ((conv => whnf); (repeat ((refine And.intro (by exact rfl) ?_); (conv => whnf))))) ?_)); (conv => whnf)))))
                  rw [hI26]
                  subst hv2 hv3 hv4 hv5
                  (refine Turned.of [0, 1, 2, 3, 4, 5, 6, 7] [(1, .sl 1 0 m (some os.length)), (5, .sl 6 0 (ml.length + 1) none), (6, .ptr 2 0 0 0), (8, .int .i64 (i : Int)), (9, .ptr 7 0 0 0), (10, .int .i64 ((c2.way.length : Int) - 1)), (16, .int .i64 (r : Int)), (151, .bool false)] [⟨2, true, none, .row (rowMd ml)⟩, ⟨1, true, none, .ints .i64 os⟩, c2.varE false 3 4 5, c2.mapE false, c2.wayE false, c2.orpE false, ⟨66, false, none, .row (rowHd L)⟩, ⟨32, false, none, .var [.ints .u8 32 c2.tip]⟩] (by rfl) (by rfl) (by rfl) (by (repeat' (first | exact True.intro | exact rfl | refine And.intro ?_ ?_ | (simp [AV.ren, AV.rens, AObj.ren, Ent.ren, AV.inn, AV.inns, AObj.inn, *]; done)))) (by (repeat' (first | exact True.intro | exact rfl | refine And.intro ?_ ?_ | (simp [AV.ren, AV.rens, AObj.ren, Ent.ren, AV.inn, AV.inns, AObj.inn, *]; done)))) ?_)
                  exact ⟨rfl, rfl⟩
            rintro fr hp hfh
            rw [hI26] at hfh
            obtain ⟨rfl, rfl⟩ := hfh
            refine ev_sound tokT (keep := fun _ => true) ?_
            (conv => whnf)
            refine ev_sound tokT (keep := fun _ => true) ?_
            (conv => whnf)
            rw [IntWalk.i64_in ((r : Int) - 1) (by omega)]
            (refine Turned.of [0, 1, 2, 3, 4, 5, 6, 7] [(1, .sl 1 0 m (some os.length)), (5, .sl 6 0 (ml.length + 1) none), (6, .ptr 2 0 0 0), (8, .int .i64 (i : Int)), (9, .ptr 7 0 0 0), (10, .int .i64 ((c2.way.length : Int) - 1)), (16, .int .i64 ((r : Int) - 1))] [⟨2, true, none, .row (rowMd ml)⟩, ⟨1, true, none, .ints .i64 os⟩, c2.varE false 3 4 5, c2.mapE false, c2.wayE false, c2.orpE false, ⟨66, false, none, .row (rowHd L)⟩, ⟨32, false, none, .var [.ints .u8 32 c2.tip]⟩] (by rfl) (by rfl) (by rfl) (by (repeat' (first | exact True.intro | exact rfl | refine And.intro ?_ ?_ | (simp [AV.ren, AV.rens, AObj.ren, Ent.ren, AV.inn, AV.inns, AObj.inn, *]; done)))) (by (repeat' (first | exact True.intro | exact rfl | refine And.intro ?_ ?_ | (simp [AV.ren, AV.rens, AObj.ren, Ent.ren, AV.inn, AV.inns, AObj.inn, *]; done)))) ?_)
            exact ⟨r, by omega, by omega, rfl, rfl⟩
      rintro fr hp ⟨rfl, rfl⟩
      refine ev_sound tokT (keep := fun _ => true) ?_
      unfold Ch.varE Ch.mapE Ch.wayE Ch.orpE
      (conv => whnf)
      rw [IntWalk.i64_in ((i : Int) + 1) (by omega)]
      (refine Turned.of [0, 1, 2, 3, 4, 5, 6] [(1, .sl 1 0 m (some os.length)), (5, .sl 6 0 (ml.length + 1) none), (6, .ptr 2 0 0 0), (8, .int .i64 ((i + 1 : Nat) : Int))] [⟨2, true, none, .row (rowMd ml)⟩, ⟨1, true, none, .ints .i64 os⟩, c2.varE false 3 4 5, c2.mapE false, c2.wayE false, c2.orpE false, ⟨66, false, none, .row (rowHd L)⟩] (by rfl) (by rfl) (by rfl) (by (repeat' (first | exact True.intro | exact rfl | refine And.intro ?_ ?_ | (simp [AV.ren, AV.rens, AObj.ren, Ent.ren, AV.inn, AV.inns, AObj.inn, *]; done)))) (by (repeat' (first | exact True.intro | exact rfl | refine And.intro ?_ ?_ | (simp [AV.ren, AV.rens, AObj.ren, Ent.ren, AV.inn, AV.inns, AObj.inn, *]; done)))) ?_)
      exact ⟨m - (i + 1), by omega, i + 1, c2, rfl, by omega, k2, t2, b2, rfl, rfl⟩
  rintro fr hp ⟨c, rfl, rfl⟩
  unfold Ch.varE Ch.mapE Ch.wayE Ch.orpE
  refine AW.pre tokT (fun _ => true) ?_; (conv => whnf)
  refine AC.pure (v := .bool true) haw (by simp [AV.inns]) (by simp [AV.inn]) ?_
  (conv => whnf)
  refine ev_sound tokT (keep := fun _ => true) ?_
  (conv => whnf)
  (refine Left.of [0, 1] (.bool true) [⟨2, true, none, .row (rowMd ml)⟩, ⟨1, true, none, .ints .i64 os⟩] (by rfl) (by rfl) (by rfl) (by (repeat' (first | exact True.intro | exact rfl | refine And.intro ?_ ?_ | (simp [AV.ren, AV.rens, AObj.ren, Ent.ren, AV.inn, AV.inns, AObj.inn, *]; done)))) (by rfl) (by (repeat' (first | exact True.intro | exact rfl | refine And.intro ?_ ?_ | (simp [AV.ren, AV.rens, AObj.ren, Ent.ren, AV.inn, AV.inns, AObj.inn, *]; done)))) ?_)
  rfl
end Go.Aw
