/-
  AwCh24: ChainEvents: the walk. Own work.
-/
import Derived.Test.YtdababcblhbpeaaAwCh23
import Derived.Test.YtdababcblhbpeaaAwCh20
import Derived.Test.YtdababcblhbpeaaM4
set_option linter.unusedVariables false
set_option linter.unusedSimpArgs false
set_option maxRecDepth 20000
set_option maxHeartbeats 4000000
open Go.Proofs
namespace Go.Aw

theorem AW.endT {P : Program} {N M : Nat} {x : Code} {Kn E G R} {fr : Fr} {hp : Hp} (I : Fr → Hp → Prop) (h : AW P N M x (Turned M I) E G R fr hp) (h' : ∀ fr hp, I fr hp → Kn fr hp) : AW P N M x Kn E G R fr hp :=
  AW.post (AW.mono h fun fr hp g => by
    unfold Turned at g ⊢
    obtain ⟨σ, fr', hp', a, b, c, d, e⟩ := g
    exact ⟨σ, fr', hp', a, b, c, d, h' _ _ e⟩)
theorem events_law (k : Int) (ml0 : List Md) (os : List Int) (n m : Nat) (hn : n ≤ ml0.length) (hm : m ≤ os.length) :
    AC Try.prog 15 [.int .i64 k, .sl 0 0 n (some ml0.length), .sl 1 0 m (some os.length)] [⟨2, true, none, .row (rowMd ml0)⟩, ⟨1, true, none, .ints .i64 os⟩] (fun r hp' => r = .bool true) := by
  refine AC.left (AC.body tokT Try.func15 rfl rfl rfl (by decide) (by rfl) ?_)
  obtain ⟨ml, hml⟩ : ∃ ml, ml0.take n = ml := ⟨_, rfl⟩
  have hmn : ml.length = n := by rw [← hml, List.length_take]; omega
  refine AW.shorten 0 n 2 true none (rowMd ml0) [⟨2, true, none, .row (rowMd ml)⟩, ⟨1, true, none, .ints .i64 os⟩] (by decide) rfl (by rw [← hml]; simp [rowMd, List.map_take]) ?_
  subst hmn
  have haw := awake_ok
  refine AW.pre tokT (fun _ => true) ?_; (conv => whnf)
  refine AW.cutT (fun fr hp => (1 ≤ k ∧ k ≤ 100 ∧ ml.length ≤ 40 ∧ m ≤ 60) ∧ fr = [(0, .int .i64 k), (1, .sl 0 0 ml.length (some ml0.length)), (2, .sl 1 0 m (some os.length))] ∧ hp = [⟨2, true, none, .row (rowMd ml)⟩, ⟨1, true, none, .ints .i64 os⟩]) ?_ ?_
  · refine AW.cutT (fun fr hp => ∃ b, (b = false → 1 ≤ k ∧ k ≤ 100 ∧ ml.length ≤ 40 ∧ m ≤ 60) ∧ fr = [(0, .int .i64 k), (1, .sl 0 0 ml.length (some ml0.length)), (2, .sl 1 0 m (some os.length)), (35, .bool b)] ∧ hp = [⟨2, true, none, .row (rowMd ml)⟩, ⟨1, true, none, .ints .i64 os⟩]) ?_ ?_
    · refine ev_sound tokT (keep := fun _ => true) ?_
      (conv => whnf); (cases g1 : (decide (k < 1) : Bool) <;> (try simp only [beq_iff_eq, beq_eq_false_iff_ne, ne_eq, decide_eq_true_eq, decide_eq_false_iff_not, bne_iff_ne, bne_eq_false_iff_eq, Bool.not_eq_true, Bool.not_eq_false, gt_iff_lt, ge_iff_le] at g1) <;> (try (exfalso; omega)))
      case' true =>
        (conv => whnf)
        (refine Turned.of [0, 1] [(0, .int .i64 k), (1, .sl 0 0 ml.length (some ml0.length)), (2, .sl 1 0 m (some os.length)), (35, .bool true)] [⟨2, true, none, .row (rowMd ml)⟩, ⟨1, true, none, .ints .i64 os⟩] (by rfl) (by rfl) (by rfl) (by (repeat' (first | exact True.intro | exact rfl | refine And.intro ?_ ?_ | (simp [AV.ren, AV.rens, AObj.ren, Ent.ren, AV.inn, AV.inns, AObj.inn, *]; done)))) (by (repeat' (first | exact True.intro | exact rfl | refine And.intro ?_ ?_ | (simp [AV.ren, AV.rens, AObj.ren, Ent.ren, AV.inn, AV.inns, AObj.inn, *]; done)))) ?_)
        exact ⟨true, fun h => (by cases h), rfl, rfl⟩
      (conv => whnf); (cases g2 : (decide (k > 100) : Bool) <;> (try simp only [beq_iff_eq, beq_eq_false_iff_ne, ne_eq, decide_eq_true_eq, decide_eq_false_iff_not, bne_iff_ne, bne_eq_false_iff_eq, Bool.not_eq_true, Bool.not_eq_false, gt_iff_lt, ge_iff_le] at g2) <;> (try (exfalso; omega)))
      case' true =>
        (conv => whnf)
        (refine Turned.of [0, 1] [(0, .int .i64 k), (1, .sl 0 0 ml.length (some ml0.length)), (2, .sl 1 0 m (some os.length)), (35, .bool true)] [⟨2, true, none, .row (rowMd ml)⟩, ⟨1, true, none, .ints .i64 os⟩] (by rfl) (by rfl) (by rfl) (by (repeat' (first | exact True.intro | exact rfl | refine And.intro ?_ ?_ | (simp [AV.ren, AV.rens, AObj.ren, Ent.ren, AV.inn, AV.inns, AObj.inn, *]; done)))) (by (repeat' (first | exact True.intro | exact rfl | refine And.intro ?_ ?_ | (simp [AV.ren, AV.rens, AObj.ren, Ent.ren, AV.inn, AV.inns, AObj.inn, *]; done)))) ?_)
        exact ⟨true, fun h => (by cases h), rfl, rfl⟩
      (conv => whnf); (cases g3 : (decide ((↑ml.length : Int) > 40) : Bool) <;> (try simp only [beq_iff_eq, beq_eq_false_iff_ne, ne_eq, decide_eq_true_eq, decide_eq_false_iff_not, bne_iff_ne, bne_eq_false_iff_eq, Bool.not_eq_true, Bool.not_eq_false, gt_iff_lt, ge_iff_le] at g3) <;> (try (exfalso; omega)))
      case' true =>
        (conv => whnf)
        (refine Turned.of [0, 1] [(0, .int .i64 k), (1, .sl 0 0 ml.length (some ml0.length)), (2, .sl 1 0 m (some os.length)), (35, .bool true)] [⟨2, true, none, .row (rowMd ml)⟩, ⟨1, true, none, .ints .i64 os⟩] (by rfl) (by rfl) (by rfl) (by (repeat' (first | exact True.intro | exact rfl | refine And.intro ?_ ?_ | (simp [AV.ren, AV.rens, AObj.ren, Ent.ren, AV.inn, AV.inns, AObj.inn, *]; done)))) (by (repeat' (first | exact True.intro | exact rfl | refine And.intro ?_ ?_ | (simp [AV.ren, AV.rens, AObj.ren, Ent.ren, AV.inn, AV.inns, AObj.inn, *]; done)))) ?_)
        exact ⟨true, fun h => (by cases h), rfl, rfl⟩
      (conv => whnf)
      (refine Turned.of [0, 1] [(0, .int .i64 k), (1, .sl 0 0 ml.length (some ml0.length)), (2, .sl 1 0 m (some os.length)), (35, .bool (decide ((m : Int) > 60)))] [⟨2, true, none, .row (rowMd ml)⟩, ⟨1, true, none, .ints .i64 os⟩] (by rfl) (by rfl) (by rfl) (by (repeat' (first | exact True.intro | exact rfl | refine And.intro ?_ ?_ | (simp [AV.ren, AV.rens, AObj.ren, Ent.ren, AV.inn, AV.inns, AObj.inn, *]; done)))) (by (repeat' (first | exact True.intro | exact rfl | refine And.intro ?_ ?_ | (simp [AV.ren, AV.rens, AObj.ren, Ent.ren, AV.inn, AV.inns, AObj.inn, *]; done)))) ?_)
      exact ⟨_, fun h => ⟨by omega, by omega, by omega, by have := of_decide_eq_false h; omega⟩, rfl, rfl⟩
    rintro fr hp ⟨b, hb, rfl, rfl⟩
    refine AW.condK ?_
    (conv => whnf)
    cases b with
    | true =>
      (conv => whnf)
      refine AW.pre tokT (fun _ => true) ?_; (conv => whnf)
      refine AC.pure (v := .bool true) haw (by simp [AV.inns]) (by simp [AV.inn]) ?_
      (conv => whnf)
      refine ev_sound tokT (keep := fun _ => true) ?_
      (conv => whnf)
      (refine Left.of [0, 1] (.bool true) [⟨2, true, none, .row (rowMd ml)⟩, ⟨1, true, none, .ints .i64 os⟩] (by rfl) (by rfl) (by rfl) (by (repeat' (first | exact True.intro | exact rfl | refine And.intro ?_ ?_ | (simp [AV.ren, AV.rens, AObj.ren, Ent.ren, AV.inn, AV.inns, AObj.inn, *]; done)))) (by rfl) (by (repeat' (first | exact True.intro | exact rfl | refine And.intro ?_ ?_ | (simp [AV.ren, AV.rens, AObj.ren, Ent.ren, AV.inn, AV.inns, AObj.inn, *]; done)))) ?_)
      rfl
    | false =>
      refine ev_sound tokT (keep := fun _ => true) ?_
      (conv => whnf)
      (refine Turned.of [0, 1] [(0, .int .i64 k), (1, .sl 0 0 ml.length (some ml0.length)), (2, .sl 1 0 m (some os.length))] [⟨2, true, none, .row (rowMd ml)⟩, ⟨1, true, none, .ints .i64 os⟩] (by rfl) (by rfl) (by rfl) (by (repeat' (first | exact True.intro | exact rfl | refine And.intro ?_ ?_ | (simp [AV.ren, AV.rens, AObj.ren, Ent.ren, AV.inn, AV.inns, AObj.inn, *]; done)))) (by (repeat' (first | exact True.intro | exact rfl | refine And.intro ?_ ?_ | (simp [AV.ren, AV.rens, AObj.ren, Ent.ren, AV.inn, AV.inns, AObj.inn, *]; done)))) ?_)
      exact ⟨hb rfl, rfl, rfl⟩
  rintro fr hp ⟨⟨hk1, hk2, hl40, hm60⟩, rfl, rfl⟩
  have hnb : newB gen0 k 20 = true := by
    unfold newB
    rw [show mayB gen0 = true by unfold mayB; decide, Bool.true_and]
    exact decide_eq_true ⟨hk1, hk2, by decide, by decide⟩
  have hnew := new_ok gen0 k 20 gen0_wf hnb
  obtain ⟨k0, t0⟩ := new_inv gen0 k 20 gen0_wf hnb
  obtain ⟨c0, hc0⟩ : ∃ c0, newC gen0 k 20 = c0 := ⟨_, rfl⟩
  have hw0 : c0.way = [hidOf gen0] := by rw [← hc0]; rfl
  have hk0 : c0.k = k := by rw [← hc0]; rfl
  rw [hc0] at hnew k0 t0
  have hcast := cast_ok ml (some ml0.length) (by omega)
  obtain ⟨hLw, hLl, hL0⟩ := castA_props ml
  obtain ⟨L, hL⟩ : ∃ L, castA ml = L := ⟨_, rfl⟩
  rw [hL] at hcast hLw hLl hL0
  have hrL0 : (rowHd L)[0 + Int.toNat 0]? = some gen0.segs := by simp [rowHd, hL0]
  have hri0 := refid_ok gen0 gen0_wf
  refine AW.cutT (fun fr hp => fr = [(0, .int .i64 k), (2, .sl 1 0 m (some os.length)), (7, .sl 2 0 (ml.length + 1) none)] ∧ hp = [⟨2, true, none, .row (rowMd ml)⟩, ⟨1, true, none, .ints .i64 os⟩, ⟨66, false, none, .row (rowHd L)⟩]) ?_ ?_
  · refine ev_sound tokT (keep := fun _ => true) ?_
    (conv => whnf)
    refine AC.frame hcast [0] (by (repeat' (first | exact True.intro | exact rfl | refine And.intro ?_ ?_ | (simp [AV.ren, AV.rens, AObj.ren, Ent.ren, AV.inn, AV.inns, AObj.inn, *]; done)))) (by rfl) (by (repeat' (first | exact True.intro | refine And.intro ?_ ?_ | (simp [AV.ren, AV.rens, AObj.ren, Ent.ren, AV.inn, AV.inns, AObj.inn, *]; done)))) (by rfl) ?_
    rintro r0 hp0 ⟨rfl, rfl⟩
    (conv => whnf)
    (refine Turned.of [0, 1, 2] [(0, .int .i64 k), (2, .sl 1 0 m (some os.length)), (7, .sl 2 0 (ml.length + 1) none)] [⟨2, true, none, .row (rowMd ml)⟩, ⟨1, true, none, .ints .i64 os⟩, ⟨66, false, none, .row (rowHd L)⟩] (by rfl) (by rfl) (by rfl) (by (repeat' (first | exact True.intro | exact rfl | refine And.intro ?_ ?_ | (simp [AV.ren, AV.rens, AObj.ren, Ent.ren, AV.inn, AV.inns, AObj.inn, *]; done)))) (by (repeat' (first | exact True.intro | exact rfl | refine And.intro ?_ ?_ | (simp [AV.ren, AV.rens, AObj.ren, Ent.ren, AV.inn, AV.inns, AObj.inn, *]; done)))) ?_)
    exact ⟨rfl, rfl⟩
  rintro fr hp ⟨rfl, rfl⟩
  refine AW.cutT (fun fr hp => fr = [(0, .int .i64 k), (2, .sl 1 0 m (some os.length)), (7, .sl 6 0 (ml.length + 1) none), (8, .ptr 2 0 0 0), (9, .int .i64 0)] ∧ hp = [⟨2, true, none, .row (rowMd ml)⟩, ⟨1, true, none, .ints .i64 os⟩, c0.varE false 3 4 5, c0.mapE false, c0.wayE false, c0.orpE false, ⟨66, false, none, .row (rowHd L)⟩]) ?_ ?_
  · unfold Ch.varE Ch.mapE Ch.wayE Ch.orpE
    refine ev_sound tokT (keep := fun _ => true) ?_
    ((conv => whnf); (repeat (((refine And.intro (by omega) ?_); (conv => whnf)))))
    rw [hrL0]
    (conv => whnf)
    refine AC.frame hnew [] (by (repeat' (exact True.intro))) (by rfl) (by (repeat' (first | exact True.intro | refine And.intro ?_ ?_))) (by rfl) ?_
    rintro r0 hp0 ⟨rfl, rfl⟩
    (conv => whnf)
    (refine Turned.of [0, 1, 3, 4, 5, 6, 2] [(0, .int .i64 k), (2, .sl 1 0 m (some os.length)), (7, .sl 6 0 (ml.length + 1) none), (8, .ptr 2 0 0 0), (9, .int .i64 0)] [⟨2, true, none, .row (rowMd ml)⟩, ⟨1, true, none, .ints .i64 os⟩, c0.varE false 3 4 5, c0.mapE false, c0.wayE false, c0.orpE false, ⟨66, false, none, .row (rowHd L)⟩] (by rfl) (by rfl) (by rfl) (by (repeat' (first | exact True.intro | exact rfl | refine And.intro ?_ ?_ | (simp [AV.ren, AV.rens, AObj.ren, Ent.ren, AV.inn, AV.inns, AObj.inn, *]; done)))) (by (repeat' (first | exact True.intro | exact rfl | refine And.intro ?_ ?_ | (simp [AV.ren, AV.rens, AObj.ren, Ent.ren, AV.inn, AV.inns, AObj.inn, *]; done)))) ?_)
    exact ⟨rfl, rfl⟩
  rintro fr hp ⟨rfl, rfl⟩
  refine AW.cutT (fun fr hp => fr = [(0, .int .i64 k), (2, .sl 1 0 m (some os.length)), (7, .sl 6 0 (ml.length + 1) none), (8, .ptr 2 0 0 0)] ∧ hp = [⟨2, true, none, .row (rowMd ml)⟩, ⟨1, true, none, .ints .i64 os⟩, c0.varE false 3 4 5, c0.mapE false, c0.wayE false, c0.orpE false, ⟨66, false, none, .row (rowHd L)⟩]) ?_ ?_
  · unfold Ch.varE Ch.mapE Ch.wayE Ch.orpE
    refine ev_sound tokT (keep := fun _ => true) ?_
    (conv => whnf)
    (refine Turned.of [0, 1, 2, 3, 4, 5, 6] [(0, .int .i64 k), (2, .sl 1 0 m (some os.length)), (7, .sl 6 0 (ml.length + 1) none), (8, .ptr 2 0 0 0)] [⟨2, true, none, .row (rowMd ml)⟩, ⟨1, true, none, .ints .i64 os⟩, c0.varE false 3 4 5, c0.mapE false, c0.wayE false, c0.orpE false, ⟨66, false, none, .row (rowHd L)⟩] (by rfl) (by rfl) (by rfl) (by (repeat' (first | exact True.intro | exact rfl | refine And.intro ?_ ?_ | (simp [AV.ren, AV.rens, AObj.ren, Ent.ren, AV.inn, AV.inns, AObj.inn, *]; done)))) (by (repeat' (first | exact True.intro | exact rfl | refine And.intro ?_ ?_ | (simp [AV.ren, AV.rens, AObj.ren, Ent.ren, AV.inn, AV.inns, AObj.inn, *]; done)))) ?_)
    exact ⟨rfl, rfl⟩
  rintro fr hp ⟨rfl, rfl⟩
  unfold Ch.varE Ch.mapE Ch.wayE Ch.orpE
  refine AW.pre tokT (fun _ => true) ?_; ((conv => whnf); (repeat (((refine And.intro (by omega) ?_); (conv => whnf)))))
  rw [hrL0]
  (conv => whnf)
  refine AC.pure (v := .agg [.ints .u8 32 (hidOf gen0)]) hri0 (by simp [AV.inns, AV.inn]) (by simp [AV.inn, AV.inns]) ?_
  (conv => whnf)
  refine AW.slotOff 10 _ rfl ?_
  (refine AW.turnL [0, 1, 2, 3, 4, 5, 6, 7] [(0, .int .i64 k), (2, .sl 1 0 m (some os.length)), (7, .sl 6 0 (ml.length + 1) none), (8, .ptr 2 0 0 0), (10, .sl 7 0 1 none)] [⟨2, true, none, .row (rowMd ml)⟩, ⟨1, true, none, .ints .i64 os⟩, c0.varE false 3 4 5, c0.mapE false, c0.wayE false, c0.orpE false, ⟨66, false, none, .row (rowHd L)⟩, ⟨32, false, none, .row (rowH [hidOf gen0])⟩] (by rfl) (by rfl) (by rfl) (by (repeat' (first | exact True.intro | exact rfl | refine And.intro ?_ ?_ | (simp [AV.ren, AV.rens, AObj.ren, Ent.ren, AV.inn, AV.inns, AObj.inn, *]; done)))) (by (repeat' (first | exact True.intro | exact rfl | refine And.intro ?_ ?_ | (simp [AV.ren, AV.rens, AObj.ren, Ent.ren, AV.inn, AV.inns, AObj.inn, *]; done)))) ?_)
  refine AW.cutT (fun fr hp => ∃ (c : Ch) (W : List (List Int)), fr = [] ∧ hp = [⟨2, true, none, .row (rowMd ml)⟩, ⟨1, true, none, .ints .i64 os⟩, c.varE false 3 4 5, c.mapE false, c.wayE false, c.orpE false, ⟨66, false, none, .row (rowHd L)⟩, ⟨32, false, none, .row (rowH W)⟩]) ?_ ?_
  · refine AW.pre tokT (fun _ => true) ?_; (conv => whnf)
    refine AW.block ?_
    (refine AW.turnL [0, 1, 2, 3, 4, 5, 6, 7] [(0, .int .i64 k), (2, .sl 1 0 m (some os.length)), (7, .sl 6 0 (ml.length + 1) none), (8, .ptr 2 0 0 0), (10, .sl 7 0 1 none), (11, .int .i64 0)] [⟨2, true, none, .row (rowMd ml)⟩, ⟨1, true, none, .ints .i64 os⟩, c0.varE false 3 4 5, c0.mapE false, c0.wayE false, c0.orpE false, ⟨66, false, none, .row (rowHd L)⟩, ⟨32, false, none, .row (rowH [hidOf gen0])⟩] (by rfl) (by rfl) (by rfl) (by (repeat' (first | exact True.intro | exact rfl | refine And.intro ?_ ?_ | (simp [AV.ren, AV.rens, AObj.ren, Ent.ren, AV.inn, AV.inns, AObj.inn, *]; done)))) (by (repeat' (first | exact True.intro | exact rfl | refine And.intro ?_ ?_ | (simp [AV.ren, AV.rens, AObj.ren, Ent.ren, AV.inn, AV.inns, AObj.inn, *]; done)))) ?_)
    refine AW.loop (fun q fr hp => ∃ (i : Nat) (c : Ch) (W : List (List Int)), q = m - i ∧ i ≤ m ∧ KOk c i ∧ Tree c ∧ c.k = k ∧ c.way = W ∧ fr = [(0, .int .i64 k), (2, .sl 1 0 m (some os.length)), (7, .sl 6 0 (ml.length + 1) none), (8, .ptr 2 0 0 0), (10, .sl 7 0 W.length none), (11, .int .i64 (i : Int))] ∧ hp = [⟨2, true, none, .row (rowMd ml)⟩, ⟨1, true, none, .ints .i64 os⟩, c.varE false 3 4 5, c.mapE false, c.wayE false, c.orpE false, ⟨66, false, none, .row (rowHd L)⟩, ⟨32, false, none, .row (rowH W)⟩]) m ?_ ?_
    · exact ⟨0, c0, [hidOf gen0], rfl, by omega, k0, t0, hk0, hw0, rfl, rfl⟩
    · rintro q fr hp ⟨i, c, W, rfl, hi, hc, ht, hck, hcW, rfl, rfl⟩ -
      refine AW.post ?_
      unfold Ch.varE Ch.mapE Ch.wayE Ch.orpE
      refine AW.pre tokT (fun _ => true) ?_; (conv => whnf)
      (cases hlt : (decide ((↑i : Int) < (↑m : Int)) : Bool) <;> (try simp only [beq_iff_eq, beq_eq_false_iff_ne, ne_eq, decide_eq_true_eq, decide_eq_false_iff_not, bne_iff_ne, bne_eq_false_iff_eq, Bool.not_eq_true, Bool.not_eq_false, gt_iff_lt, ge_iff_le] at hlt) <;> (try (exfalso; omega)))
      case' false =>
        (conv => whnf)
        (refine Turned.of [0, 1, 2, 3, 4, 5, 6, 7] [] [⟨2, true, none, .row (rowMd ml)⟩, ⟨1, true, none, .ints .i64 os⟩, c.varE false 3 4 5, c.mapE false, c.wayE false, c.orpE false, ⟨66, false, none, .row (rowHd L)⟩, ⟨32, false, none, .row (rowH W)⟩] (by rfl) (by rfl) (by rfl) (by (repeat' (first | exact True.intro | exact rfl | refine And.intro ?_ ?_ | (simp [AV.ren, AV.rens, AObj.ren, Ent.ren, AV.inn, AV.inns, AObj.inn, *]; done)))) (by (repeat' (first | exact True.intro | exact rfl | refine And.intro ?_ ?_ | (simp [AV.ren, AV.rens, AObj.ren, Ent.ren, AV.inn, AV.inns, AObj.inn, *]; done)))) ?_)
        exact ⟨c, W, rfl, rfl⟩
      (conv => whnf)
      refine AW.seq ?_
      refine AW.block ?_
      -- the header that comes
      obtain ⟨z, hz⟩ : ∃ z, os.getD (0 + (i : Int).toNat) 0 = z := ⟨_, rfl⟩
      have hro := round_ok z ((ml.length + 1 : Nat) : Int) (by omega) (by omega)
      obtain ⟨q, hq⟩ : ∃ q : Nat, z % ((ml.length + 1 : Nat) : Int) = (q : Int) := ⟨(z % ((ml.length + 1 : Nat) : Int)).toNat, (Int.toNat_of_nonneg (Int.emod_nonneg _ (by omega))).symm⟩
      have hql : q < ml.length + 1 := by have := Int.emod_lt_of_pos z (show (0 : Int) < ((ml.length + 1 : Nat) : Int) by omega); omega
      rw [hq] at hro
      obtain ⟨h, hh⟩ : ∃ h, L.getD q default = h := ⟨_, rfl⟩
      have hrq : (rowHd L)[0 + (q : Int).toNat]? = some h.segs := by rw [Nat.zero_add, Int.toNat_natCast, ← hh]; exact hd_at L q (by omega)
      have hw : h.wf := by rw [← hh]; simp [List.getElem?_eq_getElem (show q < L.length by omega)]; exact hLw _ (List.getElem_mem _)
      have hadd := add_ok c hc ht (by omega) h hw
      obtain ⟨k2, t2⟩ := adds_inv hc ht (by omega) h hw
      obtain ⟨⟨f, u, hpl⟩, hnoev, hk2e⟩ := add_plays hc ht (by omega) h hw
      obtain ⟨c2, hc2⟩ : ∃ c2, (addC c h).1 = c2 := ⟨_, rfl⟩
      obtain ⟨E, hE⟩ : ∃ E, (addC c h).2.1 = E := ⟨_, rfl⟩
      obtain ⟨e, he⟩ : ∃ e, (addC c h).2.2 = e := ⟨_, rfl⟩
      rw [hc2, hE, he] at hadd
      rw [hc2, hE, hcW, hck] at hpl
      rw [hE, he] at hnoev
      rw [hc2, hck] at hk2e
      rw [hc2] at k2 t2
      have hWl : W.length ≤ 1000000 := by rw [← hcW]; exact hc.wayn
      unfold Ch.varE Ch.mapE Ch.wayE Ch.orpE at hadd
      refine AW.cutT (fun fr hp => fr = [(0, .int .i64 k), (2, .sl 1 0 m (some os.length)), (7, .sl 6 0 (ml.length + 1) none), (8, .ptr 2 0 0 0), (10, .sl 7 0 W.length none), (11, .int .i64 (i : Int)), (12, .sl 8 0 E.length none), (13, .int .i64 e)] ∧ hp = [⟨2, true, none, .row (rowMd ml)⟩, ⟨1, true, none, .ints .i64 os⟩, c2.varE false 3 4 5, c2.mapE false, c2.wayE false, c2.orpE false, ⟨66, false, none, .row (rowHd L)⟩, ⟨32, false, none, .row (rowH W)⟩, ⟨34, false, none, .row (rowE E)⟩]) ?_ ?_
      · unfold Ch.varE Ch.mapE Ch.wayE Ch.orpE
        refine ev_sound tokT (keep := fun _ => true) ?_
        ((conv => whnf); (repeat (((refine And.intro (by first | assumption | omega) ?_); (conv => whnf)))))
        rw [hz]
        refine AC.pure (v := .int .i64 (q : Int)) hro (by simp [AV.inns, AV.inn]) (by simp [AV.inn]) ?_
        ((conv => whnf); (repeat (((refine And.intro (by omega) ?_); (conv => whnf)))))
        rw [hrq]
        (conv => whnf)
        refine AC.frame hadd [2, 3, 4, 5] (by (repeat' (first | exact True.intro | exact rfl | refine And.intro ?_ ?_ | (simp [AV.ren, AV.rens, AObj.ren, Ent.ren, AV.inn, AV.inns, AObj.inn, *]; done)))) (by rfl) (by (repeat' (first | exact True.intro | refine And.intro ?_ ?_ | (simp [AV.ren, AV.rens, AObj.ren, Ent.ren, AV.inn, AV.inns, AObj.inn, *]; done)))) (by rfl) ?_
        rintro r0 hp0 ⟨rfl, rfl⟩
        (conv => whnf)
        (refine Turned.of [0, 1, 2, 3, 8, 9, 6, 7, 10] [(0, .int .i64 k), (2, .sl 1 0 m (some os.length)), (7, .sl 6 0 (ml.length + 1) none), (8, .ptr 2 0 0 0), (10, .sl 7 0 W.length none), (11, .int .i64 (i : Int)), (12, .sl 8 0 E.length none), (13, .int .i64 e)] [⟨2, true, none, .row (rowMd ml)⟩, ⟨1, true, none, .ints .i64 os⟩, c2.varE false 3 4 5, c2.mapE false, c2.wayE false, c2.orpE false, ⟨66, false, none, .row (rowHd L)⟩, ⟨32, false, none, .row (rowH W)⟩, ⟨34, false, none, .row (rowE E)⟩] (by rfl) (by rfl) (by rfl) (by (repeat' (first | exact True.intro | exact rfl | refine And.intro ?_ ?_ | (simp [AV.ren, AV.rens, AObj.ren, Ent.ren, AV.inn, AV.inns, AObj.inn, *]; done)))) (by (repeat' (first | exact True.intro | exact rfl | refine And.intro ?_ ?_ | (simp [AV.ren, AV.rens, AObj.ren, Ent.ren, AV.inn, AV.inns, AObj.inn, *]; done)))) ?_)
        exact ⟨rfl, rfl⟩
      rintro fr hp ⟨rfl, rfl⟩
      refine AW.cutT (fun fr hp => fr = [(0, .int .i64 k), (2, .sl 1 0 m (some os.length)), (7, .sl 6 0 (ml.length + 1) none), (8, .ptr 2 0 0 0), (10, .sl 7 0 W.length none), (11, .int .i64 (i : Int)), (12, .sl 8 0 E.length none)] ∧ hp = [⟨2, true, none, .row (rowMd ml)⟩, ⟨1, true, none, .ints .i64 os⟩, c2.varE false 3 4 5, c2.mapE false, c2.wayE false, c2.orpE false, ⟨66, false, none, .row (rowHd L)⟩, ⟨32, false, none, .row (rowH W)⟩, ⟨34, false, none, .row (rowE E)⟩]) ?_ ?_
      · unfold Ch.varE Ch.mapE Ch.wayE Ch.orpE
        refine ev_sound tokT (keep := fun _ => true) ?_
        (conv => whnf)
        by_cases e0 : e = 0
        · rw [show (e != 0) = false by simp [e0]]
          (conv => whnf)
          (refine Turned.of [0, 1, 2, 3, 4, 5, 6, 7, 8] [(0, .int .i64 k), (2, .sl 1 0 m (some os.length)), (7, .sl 6 0 (ml.length + 1) none), (8, .ptr 2 0 0 0), (10, .sl 7 0 W.length none), (11, .int .i64 (i : Int)), (12, .sl 8 0 E.length none)] [⟨2, true, none, .row (rowMd ml)⟩, ⟨1, true, none, .ints .i64 os⟩, c2.varE false 3 4 5, c2.mapE false, c2.wayE false, c2.orpE false, ⟨66, false, none, .row (rowHd L)⟩, ⟨32, false, none, .row (rowH W)⟩, ⟨34, false, none, .row (rowE E)⟩] (by rfl) (by rfl) (by rfl) (by (repeat' (first | exact True.intro | exact rfl | refine And.intro ?_ ?_ | (simp [AV.ren, AV.rens, AObj.ren, Ent.ren, AV.inn, AV.inns, AObj.inn, *]; done)))) (by (repeat' (first | exact True.intro | exact rfl | refine And.intro ?_ ?_ | (simp [AV.ren, AV.rens, AObj.ren, Ent.ren, AV.inn, AV.inns, AObj.inn, *]; done)))) ?_)
          exact ⟨rfl, rfl⟩
        have hE0 := hnoev e0
        rw [show (e != 0) = true by simp [e0]]
        (conv => whnf)
        rw [show ((E.length : Int) != 0) = false by rw [hE0]; rfl]
        (conv => whnf)
        (refine Turned.of [0, 1, 2, 3, 4, 5, 6, 7, 8] [(0, .int .i64 k), (2, .sl 1 0 m (some os.length)), (7, .sl 6 0 (ml.length + 1) none), (8, .ptr 2 0 0 0), (10, .sl 7 0 W.length none), (11, .int .i64 (i : Int)), (12, .sl 8 0 E.length none)] [⟨2, true, none, .row (rowMd ml)⟩, ⟨1, true, none, .ints .i64 os⟩, c2.varE false 3 4 5, c2.mapE false, c2.wayE false, c2.orpE false, ⟨66, false, none, .row (rowHd L)⟩, ⟨32, false, none, .row (rowH W)⟩, ⟨34, false, none, .row (rowE E)⟩] (by rfl) (by rfl) (by rfl) (by (repeat' (first | exact True.intro | exact rfl | refine And.intro ?_ ?_ | (simp [AV.ren, AV.rens, AObj.ren, Ent.ren, AV.inn, AV.inns, AObj.inn, *]; done)))) (by (repeat' (first | exact True.intro | exact rfl | refine And.intro ?_ ?_ | (simp [AV.ren, AV.rens, AObj.ren, Ent.ren, AV.inn, AV.inns, AObj.inn, *]; done)))) ?_)
        exact ⟨rfl, rfl⟩
      rintro fr hp ⟨rfl, rfl⟩
      refine AW.cutT (fun fr hp => fr = [(0, .int .i64 k), (2, .sl 1 0 m (some os.length)), (7, .sl 6 0 (ml.length + 1) none), (8, .ptr 2 0 0 0), (10, .sl 7 0 W.length none), (11, .int .i64 (i : Int)), (12, .sl 8 0 E.length none), (14, .int .i64 0), (15, .int .i64 0)] ∧ hp = [⟨2, true, none, .row (rowMd ml)⟩, ⟨1, true, none, .ints .i64 os⟩, c2.varE false 3 4 5, c2.mapE false, c2.wayE false, c2.orpE false, ⟨66, false, none, .row (rowHd L)⟩, ⟨32, false, none, .row (rowH W)⟩, ⟨34, false, none, .row (rowE E)⟩]) ?_ ?_
      · unfold Ch.varE Ch.mapE Ch.wayE Ch.orpE
        refine ev_sound tokT (keep := fun _ => true) ?_
        (conv => whnf)
        (refine Turned.of [0, 1, 2, 3, 4, 5, 6, 7, 8] [(0, .int .i64 k), (2, .sl 1 0 m (some os.length)), (7, .sl 6 0 (ml.length + 1) none), (8, .ptr 2 0 0 0), (10, .sl 7 0 W.length none), (11, .int .i64 (i : Int)), (12, .sl 8 0 E.length none), (14, .int .i64 0), (15, .int .i64 0)] [⟨2, true, none, .row (rowMd ml)⟩, ⟨1, true, none, .ints .i64 os⟩, c2.varE false 3 4 5, c2.mapE false, c2.wayE false, c2.orpE false, ⟨66, false, none, .row (rowHd L)⟩, ⟨32, false, none, .row (rowH W)⟩, ⟨34, false, none, .row (rowE E)⟩] (by rfl) (by rfl) (by rfl) (by (repeat' (first | exact True.intro | exact rfl | refine And.intro ?_ ?_ | (simp [AV.ren, AV.rens, AObj.ren, Ent.ren, AV.inn, AV.inns, AObj.inn, *]; done)))) (by (repeat' (first | exact True.intro | exact rfl | refine And.intro ?_ ?_ | (simp [AV.ren, AV.rens, AObj.ren, Ent.ren, AV.inn, AV.inns, AObj.inn, *]; done)))) ?_)
        exact ⟨rfl, rfl⟩
      rintro fr hp ⟨rfl, rfl⟩
      have hEl : E.length = (W.length - 1 - f) + u.length := by rw [hpl.ev, List.length_append, evDown_length, evUp_length]
      have hfl := hpl.lt
      obtain ⟨D, hD⟩ : ∃ D, W.length - 1 - f = D := ⟨_, rfl⟩
      have hul : u.length ≤ 1000000 := by
        have := k2.wayn
        rw [hpl.to, List.length_append] at this
        omega
      refine AW.cutT (fun fr hp => fr = [(0, .int .i64 k), (2, .sl 1 0 m (some os.length)), (7, .sl 6 0 (ml.length + 1) none), (8, .ptr 2 0 0 0), (10, .sl 7 0 c2.way.length none), (11, .int .i64 (i : Int)), (14, .int .i64 (u.length : Int)), (15, .int .i64 ((W.length - 1 - f : Nat) : Int))] ∧ hp = [⟨2, true, none, .row (rowMd ml)⟩, ⟨1, true, none, .ints .i64 os⟩, c2.varE false 3 4 5, c2.mapE false, c2.wayE false, c2.orpE false, ⟨66, false, none, .row (rowHd L)⟩, ⟨32, false, none, .row (rowH c2.way)⟩]) ?_ ?_
      · refine AW.pre tokT (fun _ => true) ?_; (conv => whnf)
        (refine AW.turnL [0, 1, 2, 3, 4, 5, 6, 7, 8] [(0, .int .i64 k), (2, .sl 1 0 m (some os.length)), (7, .sl 6 0 (ml.length + 1) none), (8, .ptr 2 0 0 0), (10, .sl 7 0 W.length none), (11, .int .i64 (i : Int)), (12, .sl 8 0 E.length none), (14, .int .i64 0), (15, .int .i64 0), (16, .int .i64 0)] [⟨2, true, none, .row (rowMd ml)⟩, ⟨1, true, none, .ints .i64 os⟩, c2.varE false 3 4 5, c2.mapE false, c2.wayE false, c2.orpE false, ⟨66, false, none, .row (rowHd L)⟩, ⟨32, false, none, .row (rowH W)⟩, ⟨34, false, none, .row (rowE E)⟩] (by rfl) (by rfl) (by rfl) (by (repeat' (first | exact True.intro | exact rfl | refine And.intro ?_ ?_ | (simp [AV.ren, AV.rens, AObj.ren, Ent.ren, AV.inn, AV.inns, AObj.inn, *]; done)))) (by (repeat' (first | exact True.intro | exact rfl | refine And.intro ?_ ?_ | (simp [AV.ren, AV.rens, AObj.ren, Ent.ren, AV.inn, AV.inns, AObj.inn, *]; done)))) ?_)
        refine AW.block ?_
        refine AW.loop (fun r fr hp => ∃ (j : Nat) (Wj : List (List Int)) (up dn : Nat), r = E.length - j ∧ j ≤ E.length ∧ ((j ≤ D ∧ Wj = W.take (W.length - j) ∧ up = 0 ∧ dn = j) ∨ (j = D + up ∧ Wj = W.take (f + 1) ++ u.take up ∧ dn = D)) ∧ fr = [(0, .int .i64 k), (2, .sl 1 0 m (some os.length)), (7, .sl 6 0 (ml.length + 1) none), (8, .ptr 2 0 0 0), (10, .sl 7 0 Wj.length none), (11, .int .i64 (i : Int)), (12, .sl 8 0 E.length none), (14, .int .i64 (up : Int)), (15, .int .i64 (dn : Int)), (16, .int .i64 (j : Int))] ∧ hp = [⟨2, true, none, .row (rowMd ml)⟩, ⟨1, true, none, .ints .i64 os⟩, c2.varE false 3 4 5, c2.mapE false, c2.wayE false, c2.orpE false, ⟨66, false, none, .row (rowHd L)⟩, ⟨32, false, none, .row (rowH Wj)⟩, ⟨34, false, none, .row (rowE E)⟩]) E.length ?_ ?_
        · exact ⟨0, W, 0, 0, by omega, by omega, .inl ⟨by omega, by rw [Nat.sub_zero, List.take_length], rfl, rfl⟩, rfl, rfl⟩
        · rintro r fr hp ⟨j, Wj, up, dn, rfl, hj, hst, rfl, rfl⟩ -
          refine AW.post ?_
          unfold Ch.varE Ch.mapE Ch.wayE Ch.orpE
          refine AW.pre tokT (fun _ => true) ?_; (conv => whnf)
          by_cases hjl : j < E.length
          case neg =>
            rw [decide_eq_false (show ¬ (j : Int) < (E.length : Int) by omega)]
            (conv => whnf)
            have hje : j = D + u.length := by omega
            have hfin : Wj = c2.way ∧ up = u.length ∧ dn = D := by
              rw [hpl.to]
              rcases hst with ⟨h1, h2, h3, h4⟩ | ⟨h1, h2, h3⟩
              · have hu0 : u = [] := List.length_eq_zero_iff.1 (by omega)
                rw [hu0] at hje ⊢
                simp only [List.length_nil] at hje ⊢
                refine ⟨?_, h3, by omega⟩
                rw [h2, List.append_nil, show W.length - j = f + 1 by omega]
              · have : up = u.length := by omega
                refine ⟨?_, this, h3⟩
                rw [h2, this, List.take_length]
            obtain ⟨q1, q2, q3⟩ := hfin
            subst q1 q2 q3
            (refine Turned.of [0, 1, 2, 3, 4, 5, 6, 7] [(0, .int .i64 k), (2, .sl 1 0 m (some os.length)), (7, .sl 6 0 (ml.length + 1) none), (8, .ptr 2 0 0 0), (10, .sl 7 0 c2.way.length none), (11, .int .i64 (i : Int)), (14, .int .i64 (u.length : Int)), (15, .int .i64 (dn : Int))] [⟨2, true, none, .row (rowMd ml)⟩, ⟨1, true, none, .ints .i64 os⟩, c2.varE false 3 4 5, c2.mapE false, c2.wayE false, c2.orpE false, ⟨66, false, none, .row (rowHd L)⟩, ⟨32, false, none, .row (rowH c2.way)⟩] (by rfl) (by rfl) (by rfl) (by (repeat' (first | exact True.intro | exact rfl | refine And.intro ?_ ?_ | (simp [AV.ren, AV.rens, AObj.ren, Ent.ren, AV.inn, AV.inns, AObj.inn, *]; done)))) (by (repeat' (first | exact True.intro | exact rfl | refine And.intro ?_ ?_ | (simp [AV.ren, AV.rens, AObj.ren, Ent.ren, AV.inn, AV.inns, AObj.inn, *]; done)))) ?_)
            exact ⟨by rw [hD], rfl⟩
          rw [decide_eq_true (show (j : Int) < (E.length : Int) by omega)]
          (conv => whnf)
          refine AW.seq ?_
          refine AW.block ?_
          have hWpos : 1 ≤ Wj.length := by
            rcases hst with ⟨h1, h2, h3, h4⟩ | ⟨h1, h2, h3⟩
            · rw [h2, List.length_take]; omega
            · rw [h2, List.length_append, List.length_take]; omega
          obtain ⟨T, hT⟩ : ∃ T, Wj.length = T + 1 := ⟨Wj.length - 1, by omega⟩
          have hTl : T ≤ 3000000 := by
            rcases hst with ⟨h1, h2, h3, h4⟩ | ⟨h1, h2, h3⟩
            · rw [h2, List.length_take] at hT; omega
            · rw [h2, List.length_append, List.length_take, List.length_take] at hT; omega
          refine AW.cutT (fun fr hp => fr = [(0, .int .i64 k), (2, .sl 1 0 m (some os.length)), (7, .sl 6 0 (ml.length + 1) none), (8, .ptr 2 0 0 0), (10, .sl 7 0 Wj.length none), (11, .int .i64 (i : Int)), (12, .sl 8 0 E.length none), (14, .int .i64 (up : Int)), (15, .int .i64 (dn : Int)), (16, .int .i64 (j : Int)), (17, .int .i64 (T : Int))] ∧ hp = [⟨2, true, none, .row (rowMd ml)⟩, ⟨1, true, none, .ints .i64 os⟩, c2.varE false 3 4 5, c2.mapE false, c2.wayE false, c2.orpE false, ⟨66, false, none, .row (rowHd L)⟩, ⟨32, false, none, .row (rowH Wj)⟩, ⟨34, false, none, .row (rowE E)⟩]) ?_ ?_
          · refine ev_sound tokT (keep := fun _ => true) ?_
            (conv => whnf)
            rw [show (Wj.length : Int) - 1 = (T : Int) by omega, IntWalk.i64_in (T : Int) (by omega)]
            (refine Turned.of [0, 1, 2, 3, 4, 5, 6, 7, 8] [(0, .int .i64 k), (2, .sl 1 0 m (some os.length)), (7, .sl 6 0 (ml.length + 1) none), (8, .ptr 2 0 0 0), (10, .sl 7 0 Wj.length none), (11, .int .i64 (i : Int)), (12, .sl 8 0 E.length none), (14, .int .i64 (up : Int)), (15, .int .i64 (dn : Int)), (16, .int .i64 (j : Int)), (17, .int .i64 (T : Int))] [⟨2, true, none, .row (rowMd ml)⟩, ⟨1, true, none, .ints .i64 os⟩, c2.varE false 3 4 5, c2.mapE false, c2.wayE false, c2.orpE false, ⟨66, false, none, .row (rowHd L)⟩, ⟨32, false, none, .row (rowH Wj)⟩, ⟨34, false, none, .row (rowE E)⟩] (by rfl) (by rfl) (by rfl) (by (repeat' (first | exact True.intro | exact rfl | refine And.intro ?_ ?_ | (simp [AV.ren, AV.rens, AObj.ren, Ent.ren, AV.inn, AV.inns, AObj.inn, *]; done)))) (by (repeat' (first | exact True.intro | exact rfl | refine And.intro ?_ ?_ | (simp [AV.ren, AV.rens, AObj.ren, Ent.ren, AV.inn, AV.inns, AObj.inn, *]; done)))) ?_)
            exact ⟨rfl, rfl⟩
          rintro fr hp ⟨rfl, rfl⟩
          by_cases hjD : j < D
          · -- what is disconnected was the top
            obtain ⟨h1, h2, rfl, rfl⟩ : j ≤ D ∧ Wj = W.take (W.length - j) ∧ up = 0 ∧ dn = j := by
              rcases hst with h | ⟨h1, _⟩
              · exact h
              · omega
            have hTW : T = W.length - 1 - dn := by rw [h2, List.length_take] at hT; omega
            obtain ⟨id, hid⟩ : ∃ id, W.getD T [] = id := ⟨_, rfl⟩
            have hev : E[dn]? = some ⟨2, id, (T : Int)⟩ := by
              rw [hpl.ev, List.getElem?_append_left (by rw [evDown_length]; omega), evDown_get _ _ _ _ (by omega), show f + (W.length - 1 - f) - dn = T by omega, hid]
            have hre : (rowE E)[0 + (dn : Int).toNat]? = some [.int .i64 2, .ints .u8 32 id, .int .i64 (T : Int)] := by
              rw [Nat.zero_add, Int.toNat_natCast]; simp [rowE, hev]
            have hrw : (rowH Wj)[0 + (T : Int).toNat]? = some [.ints .u8 32 id] := by
              rw [Nat.zero_add, Int.toNat_natCast]
              have : Wj[T]? = some id := by
                rw [h2, List.getElem?_take, if_pos (by omega), ← hid]
                simp [List.getElem?_eq_getElem (show T < W.length by omega)]
              simp [rowH, this]
            refine AW.cutT (fun fr hp => fr = [(0, .int .i64 k), (2, .sl 1 0 m (some os.length)), (7, .sl 6 0 (ml.length + 1) none), (8, .ptr 2 0 0 0), (10, .sl 7 0 Wj.length none), (11, .int .i64 (i : Int)), (12, .sl 8 0 E.length none), (14, .int .i64 0), (15, .int .i64 (dn : Int)), (16, .int .i64 (dn : Int)), (17, .int .i64 (T : Int)), (99, .int .i64 2)] ∧ hp = [⟨2, true, none, .row (rowMd ml)⟩, ⟨1, true, none, .ints .i64 os⟩, c2.varE false 3 4 5, c2.mapE false, c2.wayE false, c2.orpE false, ⟨66, false, none, .row (rowHd L)⟩, ⟨32, false, none, .row (rowH Wj)⟩, ⟨34, false, none, .row (rowE E)⟩]) ?_ ?_
            · unfold Ch.varE Ch.mapE Ch.wayE Ch.orpE
              refine ev_sound tokT (keep := fun _ => true) ?_
              ((conv => whnf); (repeat (((refine And.intro (by omega) ?_); (conv => whnf)))))
              rw [hre]
              (conv => whnf)
              (refine Turned.of [0, 1, 2, 3, 4, 5, 6, 7, 8] [(0, .int .i64 k), (2, .sl 1 0 m (some os.length)), (7, .sl 6 0 (ml.length + 1) none), (8, .ptr 2 0 0 0), (10, .sl 7 0 Wj.length none), (11, .int .i64 (i : Int)), (12, .sl 8 0 E.length none), (14, .int .i64 0), (15, .int .i64 (dn : Int)), (16, .int .i64 (dn : Int)), (17, .int .i64 (T : Int)), (99, .int .i64 2)] [⟨2, true, none, .row (rowMd ml)⟩, ⟨1, true, none, .ints .i64 os⟩, c2.varE false 3 4 5, c2.mapE false, c2.wayE false, c2.orpE false, ⟨66, false, none, .row (rowHd L)⟩, ⟨32, false, none, .row (rowH Wj)⟩, ⟨34, false, none, .row (rowE E)⟩] (by rfl) (by rfl) (by rfl) (by (repeat' (first | exact True.intro | exact rfl | refine And.intro ?_ ?_ | (simp [AV.ren, AV.rens, AObj.ren, Ent.ren, AV.inn, AV.inns, AObj.inn, *]; done)))) (by (repeat' (first | exact True.intro | exact rfl | refine And.intro ?_ ?_ | (simp [AV.ren, AV.rens, AObj.ren, Ent.ren, AV.inn, AV.inns, AObj.inn, *]; done)))) ?_)
              exact ⟨rfl, rfl⟩
            rintro fr hp ⟨rfl, rfl⟩
            unfold Ch.varE Ch.mapE Ch.wayE Ch.orpE
            refine AW.block ?_
            refine AW.pre tokT (fun _ => true) ?_; (conv => whnf)
            refine AW.condK ?_
            (conv => whnf)
            obtain ⟨I22, hI22⟩ : ∃ I : Fr → Hp → Prop, I = fun fr hp => fr = [(0, .int .i64 k), (2, .sl 1 0 m (some os.length)), (7, .sl 6 0 (ml.length + 1) none), (8, .ptr 2 0 0 0), (10, .sl 7 0 Wj.length none), (11, .int .i64 (i : Int)), (12, .sl 8 0 E.length none), (14, .int .i64 0), (15, .int .i64 (dn : Int)), (16, .int .i64 (dn : Int)), (17, .int .i64 (T : Int))] ∧ hp = [⟨2, true, none, .row (rowMd ml)⟩, ⟨1, true, none, .ints .i64 os⟩, c2.varE false 3 4 5, c2.mapE false, c2.wayE false, c2.orpE false, ⟨66, false, none, .row (rowHd L)⟩, ⟨32, false, none, .row (rowH Wj)⟩, ⟨34, false, none, .row (rowE E)⟩] := ⟨_, rfl⟩
            refine AW.cutT I22 ?_ ?_
            · refine AW.seq (AW.drawT (.pure 0 (.pure 1 (.pure 2 (.pure 3 (.pure 4 (.pure 5 (.pure 6 (.pure 7 (.pure 8 (.pure 9 (.pure 10 (.pure 11 (.pure 12 (.pure 13 (.pure 14 (.pure 15 (.pure 16 (.pure 17 (.pure 18 (.pure 19 (.pure 20 (.pure 21 (.pure 22 (.pure 23 (.pure 24 (.pure 25 (.pure 26 .fin))))))))))))))))))))))))))) (keep := fun _ => true) mixed_okC tokT (by kernel_rfl) (by kernel_rfl) ?_)
              -- mark22
              have hii : (id == id) = true := by simp
              (conv => whnf); (repeat (refine Exists.intro _ (And.intro (by (conv => whnf); exact ⟨rfl, rfl⟩) ?_); (conv => whnf)))
              rw [decide_eq_false (show ¬ (T : Int) < 1 by omega)]
              (conv => whnf); (repeat (refine Exists.intro _ (And.intro (by (conv => whnf); exact ⟨rfl, rfl⟩) ?_); (conv => whnf)))
              refine Exists.intro _ (And.intro (by (conv => whnf); exact ⟨by omega, by omega, rfl, rfl⟩) ?_)
              (conv => whnf)
              refine Exists.intro (.agg [.ints .u8 32 id]) (And.intro (by (conv => whnf); rw [hrw]; exact ⟨rfl, rfl⟩) ?_)
              (conv => whnf); (repeat (refine Exists.intro _ (And.intro (by (conv => whnf); exact ⟨rfl, rfl⟩) ?_); (conv => whnf)))
              refine Exists.intro _ (And.intro (by (conv => whnf); exact ⟨by omega, by omega, rfl, rfl⟩) ?_)
              (conv => whnf); (repeat (refine Exists.intro _ (And.intro (by (conv => whnf); exact ⟨rfl, rfl⟩) ?_); (conv => whnf)))
              refine Exists.intro (.agg [.ints .u8 32 id]) (And.intro (by (conv => whnf); rw [hre]; exact ⟨rfl, rfl⟩) ?_)
              (conv => whnf); (repeat (refine Exists.intro _ (And.intro (by (conv => whnf); exact ⟨rfl, rfl⟩) ?_); (conv => whnf)))
              rw [hii]
              (conv => whnf); (repeat (refine Exists.intro _ (And.intro (by (conv => whnf); exact ⟨rfl, rfl⟩) ?_); (conv => whnf)))
              refine Exists.intro _ (And.intro (by (conv => whnf); exact ⟨by omega, by omega, rfl, rfl⟩) ?_)
              (conv => whnf); (repeat (refine Exists.intro _ (And.intro (by (conv => whnf); exact ⟨rfl, rfl⟩) ?_); (conv => whnf)))
              refine Exists.intro (.int .i64 (T : Int)) (And.intro (by (conv => whnf); rw [hre]; exact ⟨rfl, rfl⟩) ?_)
              (conv => whnf); (repeat (refine Exists.intro _ (And.intro (by (conv => whnf); exact ⟨rfl, rfl⟩) ?_); (conv => whnf)))
              have hTT : ((T : Int) != (T : Int)) = false := by simp
              refine AW.condK ?_
              (conv => whnf)
              rw [hTT]
              (conv => whnf)
              refine ev_sound tokT (keep := fun _ => true) ?_
              (conv => whnf)
              rw [hI22]
              (refine Turned.of [0, 1, 2, 3, 4, 5, 6, 7, 8] [(0, .int .i64 k), (2, .sl 1 0 m (some os.length)), (7, .sl 6 0 (ml.length + 1) none), (8, .ptr 2 0 0 0), (10, .sl 7 0 Wj.length none), (11, .int .i64 (i : Int)), (12, .sl 8 0 E.length none), (14, .int .i64 0), (15, .int .i64 (dn : Int)), (16, .int .i64 (dn : Int)), (17, .int .i64 (T : Int))] [⟨2, true, none, .row (rowMd ml)⟩, ⟨1, true, none, .ints .i64 os⟩, c2.varE false 3 4 5, c2.mapE false, c2.wayE false, c2.orpE false, ⟨66, false, none, .row (rowHd L)⟩, ⟨32, false, none, .row (rowH Wj)⟩, ⟨34, false, none, .row (rowE E)⟩] (by rfl) (by rfl) (by rfl) (by (repeat' (first | exact True.intro | exact rfl | refine And.intro ?_ ?_ | (simp [AV.ren, AV.rens, AObj.ren, Ent.ren, AV.inn, AV.inns, AObj.inn, *]; done)))) (by (repeat' (first | exact True.intro | exact rfl | refine And.intro ?_ ?_ | (simp [AV.ren, AV.rens, AObj.ren, Ent.ren, AV.inn, AV.inns, AObj.inn, *]; done)))) ?_)
              exact ⟨rfl, rfl⟩
            rintro fr hp hfh
            rw [hI22] at hfh
            obtain ⟨rfl, rfl⟩ := hfh
            have hTk : (Wj.take T).length = T := by rw [List.length_take]; omega
            unfold Ch.varE Ch.mapE Ch.wayE Ch.orpE
            refine AW.pre tokT (fun _ => true) ?_; ((conv => whnf); (repeat (((refine And.intro (by omega) ?_); (conv => whnf)))))
            (refine AW.turnL [0, 1, 2, 3, 4, 5, 6, 7, 8] [(0, .int .i64 k), (2, .sl 1 0 m (some os.length)), (7, .sl 6 0 (ml.length + 1) none), (8, .ptr 2 0 0 0), (10, .sl 7 0 T none), (11, .int .i64 (i : Int)), (12, .sl 8 0 E.length none), (14, .int .i64 0), (15, .int .i64 (dn : Int)), (16, .int .i64 (dn : Int))] [⟨2, true, none, .row (rowMd ml)⟩, ⟨1, true, none, .ints .i64 os⟩, c2.varE false 3 4 5, c2.mapE false, c2.wayE false, c2.orpE false, ⟨66, false, none, .row (rowHd L)⟩, ⟨32, false, none, .row (rowH Wj)⟩, ⟨34, false, none, .row (rowE E)⟩] (by rfl) (by rfl) (by rfl) (by (repeat' (first | exact True.intro | exact rfl | refine And.intro ?_ ?_ | (simp [AV.ren, AV.rens, AObj.ren, Ent.ren, AV.inn, AV.inns, AObj.inn, *]; done)))) (by (repeat' (first | exact True.intro | exact rfl | refine And.intro ?_ ?_ | (simp [AV.ren, AV.rens, AObj.ren, Ent.ren, AV.inn, AV.inns, AObj.inn, *]; done)))) ?_)
            refine AW.shorten 7 T 32 false none (rowH Wj) [⟨2, true, none, .row (rowMd ml)⟩, ⟨1, true, none, .ints .i64 os⟩, c2.varE false 3 4 5, c2.mapE false, c2.wayE false, c2.orpE false, ⟨66, false, none, .row (rowHd L)⟩, ⟨32, false, none, .row (rowH (Wj.take T))⟩, ⟨34, false, none, .row (rowE E)⟩] (by decide) rfl (by rw [rowH_take]; rfl) ?_
            unfold Ch.varE Ch.mapE Ch.wayE Ch.orpE
            refine ev_sound tokT (keep := fun _ => true) ?_
            (conv => whnf)
            refine ev_sound tokT (keep := fun _ => true) ?_
            (conv => whnf)
            rw [IntWalk.i64_in ((dn : Int) + 1) (by omega)]
            (refine Turned.of [0, 1, 2, 3, 4, 5, 6, 7, 8] [(0, .int .i64 k), (2, .sl 1 0 m (some os.length)), (7, .sl 6 0 (ml.length + 1) none), (8, .ptr 2 0 0 0), (10, .sl 7 0 T none), (11, .int .i64 (i : Int)), (12, .sl 8 0 E.length none), (14, .int .i64 0), (15, .int .i64 ((dn + 1 : Nat) : Int)), (16, .int .i64 ((dn + 1 : Nat) : Int))] [⟨2, true, none, .row (rowMd ml)⟩, ⟨1, true, none, .ints .i64 os⟩, c2.varE false 3 4 5, c2.mapE false, c2.wayE false, c2.orpE false, ⟨66, false, none, .row (rowHd L)⟩, ⟨32, false, none, .row (rowH (Wj.take T))⟩, ⟨34, false, none, .row (rowE E)⟩] (by rfl) (by rfl) (by rfl) (by (repeat' (first | exact True.intro | exact rfl | refine And.intro ?_ ?_ | (simp [AV.ren, AV.rens, AObj.ren, Ent.ren, AV.inn, AV.inns, AObj.inn, *]; done)))) (by (repeat' (first | exact True.intro | exact rfl | refine And.intro ?_ ?_ | (simp [AV.ren, AV.rens, AObj.ren, Ent.ren, AV.inn, AV.inns, AObj.inn, *]; done)))) ?_)
            refine ⟨E.length - (dn + 1), by omega, dn + 1, Wj.take T, 0, dn + 1, rfl, by omega, .inl ⟨by omega, ?_, rfl, rfl⟩, by rw [hTk]; rfl, rfl⟩
            rw [h2, List.take_take]
            congr 1
            omega
          · -- what is connected stands on it
            obtain ⟨hjv, hWv, hdn⟩ : j = D + up ∧ Wj = W.take (f + 1) ++ u.take up ∧ dn = D := by
              rcases hst with ⟨h1, h2, h3, h4⟩ | h
              · refine ⟨by omega, ?_, by omega⟩
                rw [h2, h3, List.take_zero, List.append_nil, show W.length - j = f + 1 by omega]
              · exact h
            have hupl : up < u.length := by omega
            have hWtl : (W.take (f + 1)).length = f + 1 := by rw [List.length_take]; omega
            have hTv : T + 1 = f + 1 + up := by rw [← hT, hWv, List.length_append, hWtl, List.length_take]; omega
            obtain ⟨x, hx⟩ : ∃ x, u.getD up [] = x := ⟨_, rfl⟩
            have hux : u[up]? = some x := by rw [← hx]; simp [List.getElem?_eq_getElem hupl]
            have hev : E[j]? = some ⟨1, x, ((T + 1 : Nat) : Int)⟩ := by
              rw [hpl.ev, List.getElem?_append_right (by rw [evDown_length]; omega), evDown_length, show j - (W.length - 1 - f) = up by omega, evUp_get _ _ _ _ hux, hTv]
            have hre : (rowE E)[0 + (j : Int).toNat]? = some [.int .i64 1, .ints .u8 32 x, .int .i64 ((T + 1 : Nat) : Int)] := by
              rw [Nat.zero_add, Int.toNat_natCast]; simp [rowE, hev]
            rw [hT]
            refine AW.cutT (fun fr hp => fr = [(0, .int .i64 k), (2, .sl 1 0 m (some os.length)), (7, .sl 6 0 (ml.length + 1) none), (8, .ptr 2 0 0 0), (10, .sl 7 0 (T + 1) none), (11, .int .i64 (i : Int)), (12, .sl 8 0 E.length none), (14, .int .i64 (up : Int)), (15, .int .i64 (dn : Int)), (16, .int .i64 (j : Int)), (99, .int .i64 1)] ∧ hp = [⟨2, true, none, .row (rowMd ml)⟩, ⟨1, true, none, .ints .i64 os⟩, c2.varE false 3 4 5, c2.mapE false, c2.wayE false, c2.orpE false, ⟨66, false, none, .row (rowHd L)⟩, ⟨32, false, none, .row (rowH Wj)⟩, ⟨34, false, none, .row (rowE E)⟩]) ?_ ?_
            · -- markB
              unfold Ch.varE Ch.mapE Ch.wayE Ch.orpE
              refine ev_sound tokT (keep := fun _ => true) ?_
              ((conv => whnf); (repeat (((refine And.intro (by omega) ?_); (conv => whnf)))))
              rw [hre]
              (conv => whnf)
              (refine Turned.of [0, 1, 2, 3, 4, 5, 6, 7, 8] [(0, .int .i64 k), (2, .sl 1 0 m (some os.length)), (7, .sl 6 0 (ml.length + 1) none), (8, .ptr 2 0 0 0), (10, .sl 7 0 (T + 1) none), (11, .int .i64 (i : Int)), (12, .sl 8 0 E.length none), (14, .int .i64 (up : Int)), (15, .int .i64 (dn : Int)), (16, .int .i64 (j : Int)), (99, .int .i64 1)] [⟨2, true, none, .row (rowMd ml)⟩, ⟨1, true, none, .ints .i64 os⟩, c2.varE false 3 4 5, c2.mapE false, c2.wayE false, c2.orpE false, ⟨66, false, none, .row (rowHd L)⟩, ⟨32, false, none, .row (rowH Wj)⟩, ⟨34, false, none, .row (rowE E)⟩] (by rfl) (by rfl) (by rfl) (by (repeat' (first | exact True.intro | exact rfl | refine And.intro ?_ ?_ | (simp [AV.ren, AV.rens, AObj.ren, Ent.ren, AV.inn, AV.inns, AObj.inn, *]; done)))) (by (repeat' (first | exact True.intro | exact rfl | refine And.intro ?_ ?_ | (simp [AV.ren, AV.rens, AObj.ren, Ent.ren, AV.inn, AV.inns, AObj.inn, *]; done)))) ?_)
              exact ⟨rfl, rfl⟩
            rintro fr hp ⟨rfl, rfl⟩
            unfold Ch.varE Ch.mapE Ch.wayE Ch.orpE
            refine AW.block ?_
            refine AW.pre tokT (fun _ => true) ?_; (conv => whnf)
            refine AW.condK ?_
            (conv => whnf)
            refine AW.pre tokT (fun _ => true) ?_; (conv => whnf)
            refine AW.condK ?_
            (conv => whnf)
            refine AW.cutT (fun fr hp => fr = [(0, .int .i64 k), (2, .sl 1 0 m (some os.length)), (7, .sl 6 0 (ml.length + 1) none), (8, .ptr 2 0 0 0), (10, .sl 7 0 (T + 1) none), (11, .int .i64 (i : Int)), (12, .sl 8 0 E.length none), (14, .int .i64 (up : Int)), (15, .int .i64 (dn : Int)), (16, .int .i64 (j : Int))] ∧ hp = [⟨2, true, none, .row (rowMd ml)⟩, ⟨1, true, none, .ints .i64 os⟩, c2.varE false 3 4 5, c2.mapE false, c2.wayE false, c2.orpE false, ⟨66, false, none, .row (rowHd L)⟩, ⟨32, false, none, .row (rowH Wj)⟩, ⟨34, false, none, .row (rowE E)⟩]) ?_ ?_
            · -- markB
              refine ev_sound tokT (keep := fun _ => true) ?_
              ((conv => whnf); (repeat (((refine And.intro (by omega) ?_); (conv => whnf)))))
              rw [hre]
              (conv => whnf)
              rw [show (((T + 1 : Nat) : Int) != ((T + 1 : Nat) : Int)) = false by simp]
              (conv => whnf)
              (refine Turned.of [0, 1, 2, 3, 4, 5, 6, 7, 8] [(0, .int .i64 k), (2, .sl 1 0 m (some os.length)), (7, .sl 6 0 (ml.length + 1) none), (8, .ptr 2 0 0 0), (10, .sl 7 0 (T + 1) none), (11, .int .i64 (i : Int)), (12, .sl 8 0 E.length none), (14, .int .i64 (up : Int)), (15, .int .i64 (dn : Int)), (16, .int .i64 (j : Int))] [⟨2, true, none, .row (rowMd ml)⟩, ⟨1, true, none, .ints .i64 os⟩, c2.varE false 3 4 5, c2.mapE false, c2.wayE false, c2.orpE false, ⟨66, false, none, .row (rowHd L)⟩, ⟨32, false, none, .row (rowH Wj)⟩, ⟨34, false, none, .row (rowE E)⟩] (by rfl) (by rfl) (by rfl) (by (repeat' (first | exact True.intro | exact rfl | refine And.intro ?_ ?_ | (simp [AV.ren, AV.rens, AObj.ren, Ent.ren, AV.inn, AV.inns, AObj.inn, *]; done)))) (by (repeat' (first | exact True.intro | exact rfl | refine And.intro ?_ ?_ | (simp [AV.ren, AV.rens, AObj.ren, Ent.ren, AV.inn, AV.inns, AObj.inn, *]; done)))) ?_)
              exact ⟨rfl, rfl⟩
            rintro fr hp ⟨rfl, rfl⟩
            have hl1 : (List.take (T + 1) (List.drop 0 (rowH Wj))).length = T + 1 := by simp [hT]
            have hrow29 : List.take (0 + (List.take (T + 1) (List.drop 0 (rowH Wj))).length) (List.drop 0 (List.take 0 (List.drop 0 ([] : List (List AV))) ++ List.take (T + 1) (List.drop 0 (rowH Wj)))) ++ List.take 1 (List.drop 0 [(AV.agg [AV.ints .u8 32 x]).segs]) = rowH (Wj ++ [x]) := by
              have h1 : List.take (T + 1) (List.drop 0 (rowH Wj)) = rowH Wj := by rw [List.drop_zero, List.take_of_length_le (by simp [hT])]
              rw [h1, List.take_zero, List.nil_append, List.drop_zero, Nat.zero_add, List.take_length]
              simp [rowH, AV.segs]
            refine AW.cutT (fun fr hp => fr = [(0, .int .i64 k), (2, .sl 1 0 m (some os.length)), (7, .sl 6 0 (ml.length + 1) none), (8, .ptr 2 0 0 0), (10, .sl 7 0 (T + 1 + 1) none), (11, .int .i64 (i : Int)), (12, .sl 8 0 E.length none), (14, .int .i64 (up : Int)), (15, .int .i64 (dn : Int)), (16, .int .i64 (j : Int))] ∧ hp = [⟨2, true, none, .row (rowMd ml)⟩, ⟨1, true, none, .ints .i64 os⟩, c2.varE false 3 4 5, c2.mapE false, c2.wayE false, c2.orpE false, ⟨66, false, none, .row (rowHd L)⟩, ⟨32, false, none, .row (rowH (Wj ++ [x]))⟩, ⟨34, false, none, .row (rowE E)⟩]) ?_ ?_
            · -- markD
              unfold Ch.varE Ch.mapE Ch.wayE Ch.orpE
              refine AW.drawT (.pure 1 (.pure 3 (.pure 4 (.pure 5 (.pure 6 (.pure 7 (.alt 0 (.alt 2 (.one 8 (.one 9 (.one 10 .fin))) (.one 8 (.one 2 (.one 9 (.one 10 .fin))))) (.one 8 (.one 0 (.one 2 (.one 9 (.one 10 .fin)))))))))))) (keep := fun _ => true) mixed_okC tokT (by kernel_rfl) (by kernel_rfl) ?_
              ((conv => whnf); (repeat (((refine Exists.intro _ (And.intro (by ((conv => whnf); (repeat ((refine And.intro (by first | exact rfl | omega) ?_); (conv => whnf))))) ?_)); (conv => whnf)))))
              refine Exists.intro (.agg [.ints .u8 32 x]) (And.intro (by (conv => whnf); rw [hre]; exact ⟨rfl, rfl⟩) ?_)
              (conv => whnf)
              refine Both.mk ?_ ?_
              · ((conv => whnf); (repeat (((with_reducible (refine And.intro (show Go.Aw.againsK _ _ _ _ _ from ?_) ?_)); (focus (repeat' (first | ((with_reducible (show Go.Aw.againsK _ _ _ _ _)); (conv => whnf)) | ((with_reducible (show Go.Aw.againK _ _ _ _ _)); (conv => whnf)) | (with_reducible (exact True.intro)) | (with_reducible (refine And.intro ?_ ?_)) | exact rfl | omega))); (conv => whnf)))))
                · rw [hre]; exact ⟨rfl, rfl⟩
                (conv => whnf)
                refine Both.mk ?_ ?_
                · ((conv => whnf); (repeat (first | ((with_reducible (refine And.intro (show Go.Aw.againsK _ _ _ _ _ from ?_) ?_)); (focus (repeat' (first | ((with_reducible (show Go.Aw.againsK _ _ _ _ _)); (conv => whnf)) | ((with_reducible (show Go.Aw.againK _ _ _ _ _)); (conv => whnf)) | (with_reducible (exact True.intro)) | (with_reducible (refine And.intro ?_ ?_)) | exact rfl | omega))); (conv => whnf)) | ((refine And.intro (by first | omega | (simp; omega) | (simp [roomMost]; omega)) ?_); (conv => whnf)))))
                  · rw [hre]; exact ⟨rfl, rfl⟩
                  ((conv => whnf); (repeat (first | ((with_reducible (refine And.intro (show Go.Aw.againsK _ _ _ _ _ from ?_) ?_)); (focus (repeat' (first | ((with_reducible (show Go.Aw.againsK _ _ _ _ _)); (conv => whnf)) | ((with_reducible (show Go.Aw.againK _ _ _ _ _)); (conv => whnf)) | (with_reducible (exact True.intro)) | (with_reducible (refine And.intro ?_ ?_)) | exact rfl | omega))); (conv => whnf)) | ((refine And.intro (by first | (simp; done) | (simp [roomMost]; omega)) ?_); (conv => whnf)))))
                  rw [hrow29, hl1, Nat.zero_add (T + 1)]
                  (refine Turned.of [0, 1, 2, 3, 4, 5, 6, 12, 8] [(0, .int .i64 k), (2, .sl 1 0 m (some os.length)), (7, .sl 6 0 (ml.length + 1) none), (8, .ptr 2 0 0 0), (10, .sl 7 0 (T + 1 + 1) none), (11, .int .i64 (i : Int)), (12, .sl 8 0 E.length none), (14, .int .i64 (up : Int)), (15, .int .i64 (dn : Int)), (16, .int .i64 (j : Int))] [⟨2, true, none, .row (rowMd ml)⟩, ⟨1, true, none, .ints .i64 os⟩, c2.varE false 3 4 5, c2.mapE false, c2.wayE false, c2.orpE false, ⟨66, false, none, .row (rowHd L)⟩, ⟨32, false, none, .row (rowH (Wj ++ [x]))⟩, ⟨34, false, none, .row (rowE E)⟩] (by rfl) (by rfl) (by rfl) (by (repeat' (first | exact True.intro | exact rfl | refine And.intro ?_ ?_ | (simp [AV.ren, AV.rens, AObj.ren, Ent.ren, AV.inn, AV.inns, AObj.inn, *]; done)))) (by (repeat' (first | exact True.intro | exact rfl | refine And.intro ?_ ?_ | (simp [AV.ren, AV.rens, AObj.ren, Ent.ren, AV.inn, AV.inns, AObj.inn, *]; done)))) ?_)
                  exact ⟨rfl, rfl⟩
                · ((conv => whnf); (repeat (first | ((with_reducible (refine And.intro (show Go.Aw.againsK _ _ _ _ _ from ?_) ?_)); (focus (repeat' (first | ((with_reducible (show Go.Aw.againsK _ _ _ _ _)); (conv => whnf)) | ((with_reducible (show Go.Aw.againK _ _ _ _ _)); (conv => whnf)) | (with_reducible (exact True.intro)) | (with_reducible (refine And.intro ?_ ?_)) | exact rfl | omega))); (conv => whnf)) | ((refine And.intro (by first | omega | (simp; done) | (simp; omega) | (simp [roomMost]; omega)) ?_); (conv => whnf)))))
                  rw [hrow29, hl1, Nat.zero_add (T + 1)]
                  (refine Turned.of [0, 1, 2, 3, 4, 5, 6, 12, 8] [(0, .int .i64 k), (2, .sl 1 0 m (some os.length)), (7, .sl 6 0 (ml.length + 1) none), (8, .ptr 2 0 0 0), (10, .sl 7 0 (T + 1 + 1) none), (11, .int .i64 (i : Int)), (12, .sl 8 0 E.length none), (14, .int .i64 (up : Int)), (15, .int .i64 (dn : Int)), (16, .int .i64 (j : Int))] [⟨2, true, none, .row (rowMd ml)⟩, ⟨1, true, none, .ints .i64 os⟩, c2.varE false 3 4 5, c2.mapE false, c2.wayE false, c2.orpE false, ⟨66, false, none, .row (rowHd L)⟩, ⟨32, false, none, .row (rowH (Wj ++ [x]))⟩, ⟨34, false, none, .row (rowE E)⟩] (by rfl) (by rfl) (by rfl) (by (repeat' (first | exact True.intro | exact rfl | refine And.intro ?_ ?_ | (simp [AV.ren, AV.rens, AObj.ren, Ent.ren, AV.inn, AV.inns, AObj.inn, *]; done)))) (by (repeat' (first | exact True.intro | exact rfl | refine And.intro ?_ ?_ | (simp [AV.ren, AV.rens, AObj.ren, Ent.ren, AV.inn, AV.inns, AObj.inn, *]; done)))) ?_)
                  exact ⟨rfl, rfl⟩
              · ((conv => whnf); (repeat (first | ((with_reducible (refine And.intro (show Go.Aw.againsK _ _ _ _ _ from ?_) ?_)); (focus (repeat' (first | ((with_reducible (show Go.Aw.againsK _ _ _ _ _)); (conv => whnf)) | ((with_reducible (show Go.Aw.againK _ _ _ _ _)); (conv => whnf)) | (with_reducible (exact True.intro)) | (with_reducible (refine And.intro ?_ ?_)) | exact rfl | omega))); (conv => whnf)) | ((refine And.intro (by first | omega | (simp; done) | (simp; omega) | (simp [roomMost]; omega)) ?_); (conv => whnf)))))
                rw [hrow29, hl1, Nat.zero_add (T + 1)]
                (refine Turned.of [0, 1, 2, 3, 4, 5, 6, 12, 8] [(0, .int .i64 k), (2, .sl 1 0 m (some os.length)), (7, .sl 6 0 (ml.length + 1) none), (8, .ptr 2 0 0 0), (10, .sl 7 0 (T + 1 + 1) none), (11, .int .i64 (i : Int)), (12, .sl 8 0 E.length none), (14, .int .i64 (up : Int)), (15, .int .i64 (dn : Int)), (16, .int .i64 (j : Int))] [⟨2, true, none, .row (rowMd ml)⟩, ⟨1, true, none, .ints .i64 os⟩, c2.varE false 3 4 5, c2.mapE false, c2.wayE false, c2.orpE false, ⟨66, false, none, .row (rowHd L)⟩, ⟨32, false, none, .row (rowH (Wj ++ [x]))⟩, ⟨34, false, none, .row (rowE E)⟩] (by rfl) (by rfl) (by rfl) (by (repeat' (first | exact True.intro | exact rfl | refine And.intro ?_ ?_ | (simp [AV.ren, AV.rens, AObj.ren, Ent.ren, AV.inn, AV.inns, AObj.inn, *]; done)))) (by (repeat' (first | exact True.intro | exact rfl | refine And.intro ?_ ?_ | (simp [AV.ren, AV.rens, AObj.ren, Ent.ren, AV.inn, AV.inns, AObj.inn, *]; done)))) ?_)
                exact ⟨rfl, rfl⟩
            rintro fr hp ⟨rfl, rfl⟩
            unfold Ch.varE Ch.mapE Ch.wayE Ch.orpE
            refine ev_sound tokT (keep := fun _ => true) ?_
            (conv => whnf)
            refine ev_sound tokT (keep := fun _ => true) ?_
            (conv => whnf)
            rw [IntWalk.i64_in ((up : Int) + 1) (by omega), IntWalk.i64_in ((j : Int) + 1) (by omega)]
            (refine Turned.of [0, 1, 2, 3, 4, 5, 6, 7, 8] [(0, .int .i64 k), (2, .sl 1 0 m (some os.length)), (7, .sl 6 0 (ml.length + 1) none), (8, .ptr 2 0 0 0), (10, .sl 7 0 (T + 1 + 1) none), (11, .int .i64 (i : Int)), (12, .sl 8 0 E.length none), (14, .int .i64 ((up + 1 : Nat) : Int)), (15, .int .i64 (dn : Int)), (16, .int .i64 ((j + 1 : Nat) : Int))] [⟨2, true, none, .row (rowMd ml)⟩, ⟨1, true, none, .ints .i64 os⟩, c2.varE false 3 4 5, c2.mapE false, c2.wayE false, c2.orpE false, ⟨66, false, none, .row (rowHd L)⟩, ⟨32, false, none, .row (rowH (Wj ++ [x]))⟩, ⟨34, false, none, .row (rowE E)⟩] (by rfl) (by rfl) (by rfl) (by (repeat' (first | exact True.intro | exact rfl | refine And.intro ?_ ?_ | (simp [AV.ren, AV.rens, AObj.ren, Ent.ren, AV.inn, AV.inns, AObj.inn, *]; done)))) (by (repeat' (first | exact True.intro | exact rfl | refine And.intro ?_ ?_ | (simp [AV.ren, AV.rens, AObj.ren, Ent.ren, AV.inn, AV.inns, AObj.inn, *]; done)))) ?_)
            refine ⟨E.length - (j + 1), by omega, j + 1, Wj ++ [x], up + 1, dn, rfl, by omega, .inr ⟨by omega, ?_, hdn⟩, by rw [List.length_append, hT]; rfl, rfl⟩
            rw [hWv, List.append_assoc]
            congr 1
            rw [List.take_add_one, hux]
            rfl
      rintro fr hp ⟨rfl, rfl⟩
      have htip := tip_ok c2 k2.way.1 k2.wayn k2.lens
      have hw0 := k2.way.1
      have hwn2 := k2.wayn
      obtain ⟨htw, _⟩ := t2.tips k2.way.1
      have hrt : (rowH c2.way)[0 + ((c2.way.length : Int) - 1).toNat]? = some [.ints .u8 32 c2.tip] := by
        rw [Nat.zero_add, show ((c2.way.length : Int) - 1).toNat = c2.way.length - 1 by omega]
        simp [rowH, htw]
      have hfew := hpl.few
      have hup := hpl.up
      rw [hD] at hfew
      have hD0 : (D : Int) > 0 → u.length ≠ 0 := fun q => fun g => hup (by omega) (List.length_eq_zero_iff.1 g)
      rw [hD]
      unfold Ch.varE Ch.mapE Ch.wayE Ch.orpE at htip
      refine AW.cutT (fun fr hp => fr = [(0, .int .i64 k), (2, .sl 1 0 m (some os.length)), (7, .sl 6 0 (ml.length + 1) none), (8, .ptr 2 0 0 0), (10, .sl 7 0 c2.way.length none), (11, .int .i64 (i : Int)), (14, .int .i64 (u.length : Int)), (15, .int .i64 (D : Int)), (18, .ptr 8 0 0 0), (19, .int .i64 ((c2.way.length : Int) - 1))] ∧ hp = [⟨2, true, none, .row (rowMd ml)⟩, ⟨1, true, none, .ints .i64 os⟩, c2.varE false 3 4 5, c2.mapE false, c2.wayE false, c2.orpE false, ⟨66, false, none, .row (rowHd L)⟩, ⟨32, false, none, .row (rowH c2.way)⟩, ⟨32, false, none, .var [.ints .u8 32 c2.tip]⟩]) ?_ ?_
      · -- markC
        unfold Ch.varE Ch.mapE Ch.wayE Ch.orpE
        refine ev_sound tokT (keep := fun _ => true) ?_
        (conv => whnf)
        refine AC.frame htip [2, 3, 4, 5] (by (repeat' (first | exact True.intro | exact rfl | refine And.intro ?_ ?_ | (simp [AV.ren, AV.rens, AObj.ren, Ent.ren, AV.inn, AV.inns, AObj.inn, *]; done)))) (by rfl) (by (repeat' (first | exact True.intro | refine And.intro ?_ ?_ | (simp [AV.ren, AV.rens, AObj.ren, Ent.ren, AV.inn, AV.inns, AObj.inn, *]; done)))) (by rfl) ?_
        rintro r0 hp0 ⟨rfl, rfl⟩
        (conv => whnf)
        (refine Turned.of [0, 1, 2, 3, 4, 5, 6, 7, 8] [(0, .int .i64 k), (2, .sl 1 0 m (some os.length)), (7, .sl 6 0 (ml.length + 1) none), (8, .ptr 2 0 0 0), (10, .sl 7 0 c2.way.length none), (11, .int .i64 (i : Int)), (14, .int .i64 (u.length : Int)), (15, .int .i64 (D : Int)), (18, .ptr 8 0 0 0), (19, .int .i64 ((c2.way.length : Int) - 1))] [⟨2, true, none, .row (rowMd ml)⟩, ⟨1, true, none, .ints .i64 os⟩, c2.varE false 3 4 5, c2.mapE false, c2.wayE false, c2.orpE false, ⟨66, false, none, .row (rowHd L)⟩, ⟨32, false, none, .row (rowH c2.way)⟩, ⟨32, false, none, .var [.ints .u8 32 c2.tip]⟩] (by rfl) (by rfl) (by rfl) (by (repeat' (first | exact True.intro | exact rfl | refine And.intro ?_ ?_ | (simp [AV.ren, AV.rens, AObj.ren, Ent.ren, AV.inn, AV.inns, AObj.inn, *]; done)))) (by (repeat' (first | exact True.intro | exact rfl | refine And.intro ?_ ?_ | (simp [AV.ren, AV.rens, AObj.ren, Ent.ren, AV.inn, AV.inns, AObj.inn, *]; done)))) ?_)
        exact ⟨rfl, rfl⟩
      rintro fr hp ⟨rfl, rfl⟩
      obtain ⟨I32, hI32⟩ : ∃ I : Fr → Hp → Prop, I = fun fr hp => fr = [(0, .int .i64 k), (2, .sl 1 0 m (some os.length)), (7, .sl 6 0 (ml.length + 1) none), (8, .ptr 2 0 0 0), (10, .sl 7 0 c2.way.length none), (11, .int .i64 (i : Int)), (14, .int .i64 (u.length : Int)), (15, .int .i64 (D : Int)), (18, .ptr 8 0 0 0), (19, .int .i64 ((c2.way.length : Int) - 1)), (186, .bool false)] ∧ hp = [⟨2, true, none, .row (rowMd ml)⟩, ⟨1, true, none, .ints .i64 os⟩, c2.varE false 3 4 5, c2.mapE false, c2.wayE false, c2.orpE false, ⟨66, false, none, .row (rowHd L)⟩, ⟨32, false, none, .row (rowH c2.way)⟩, ⟨32, false, none, .var [.ints .u8 32 c2.tip]⟩] := ⟨_, rfl⟩
      obtain ⟨v2, hv2⟩ : ∃ x, c2.varE false 3 4 5 = x := ⟨_, rfl⟩
      obtain ⟨v3, hv3⟩ : ∃ x, c2.mapE false = x := ⟨_, rfl⟩
      obtain ⟨v4, hv4⟩ : ∃ x, c2.wayE false = x := ⟨_, rfl⟩
      obtain ⟨v5, hv5⟩ : ∃ x, c2.orpE false = x := ⟨_, rfl⟩
      rw [hv2, hv3, hv4, hv5]
      refine AW.cutT I32 ?_ ?_
      · -- markC
        refine AW.drawT (.pure 0 (.pure 1 (.pure 2 (.pure 3 (.pure 4 (.pure 5 (.pure 6 (.pure 7 (.pure 8 (.pure 9 (.pure 10 (.pure 11 (.pure 12 (.pure 13 (.pure 14 (.pure 15 (.pure 16 (.pure 17 (.pure 18 (.pure 19 (.pure 20 (.pure 21 (.pure 22 (.pure 23 (.pure 24 (.pure 25 .fin)))))))))))))))))))))))))) (keep := fun _ => true) mixed_okC tokT (by kernel_rfl) (by kernel_rfl) ?_
        have hii : (c2.tip == c2.tip) = true := by simp
        have hnn : (((c2.way.length : Int) - 1) != IntKind.i64.wrap ((c2.way.length : Int) - 1)) = false := by rw [IntWalk.i64_in _ (by omega)]; simp
        (conv => whnf); (repeat (refine Exists.intro _ (And.intro (by (conv => whnf); exact ⟨rfl, rfl⟩) ?_); (conv => whnf)))
        rw [decide_eq_false (show ¬ (D : Int) > k by omega)]
        (conv => whnf); (repeat (refine Exists.intro _ (And.intro (by (conv => whnf); exact ⟨rfl, rfl⟩) ?_); (conv => whnf)))
        cases hb : decide ((D : Int) > 0) with
        | true =>
          have hu0 := hD0 (of_decide_eq_true hb)
          (conv => whnf); (repeat (refine Exists.intro _ (And.intro (by (conv => whnf); exact ⟨rfl, rfl⟩) ?_); (conv => whnf)))
          rw [show ((u.length : Int) == 0) = false from beq_eq_false_iff_ne.2 (by omega)]
          (conv => whnf); (repeat (refine Exists.intro _ (And.intro (by (conv => whnf); exact ⟨rfl, rfl⟩) ?_); (conv => whnf)))
          rw [hnn]
          (conv => whnf); (repeat (refine Exists.intro _ (And.intro (by (conv => whnf); exact ⟨rfl, rfl⟩) ?_); (conv => whnf)))
          refine Exists.intro _ (And.intro (by (conv => whnf); exact ⟨by omega, by omega, rfl, rfl⟩) ?_)
          (conv => whnf); (repeat (refine Exists.intro _ (And.intro (by (conv => whnf); exact ⟨rfl, rfl⟩) ?_); (conv => whnf)))
          refine Exists.intro (.agg [.ints .u8 32 c2.tip]) (And.intro (by (conv => whnf); rw [hrt]; exact ⟨rfl, rfl⟩) ?_)
          (conv => whnf); (repeat (refine Exists.intro _ (And.intro (by (conv => whnf); exact ⟨rfl, rfl⟩) ?_); (conv => whnf)))
          rw [hii]
          (conv => whnf)
          rw [hI32]
          subst hv2 hv3 hv4 hv5
          (refine Turned.of [0, 1, 2, 3, 4, 5, 6, 7, 8] [(0, .int .i64 k), (2, .sl 1 0 m (some os.length)), (7, .sl 6 0 (ml.length + 1) none), (8, .ptr 2 0 0 0), (10, .sl 7 0 c2.way.length none), (11, .int .i64 (i : Int)), (14, .int .i64 (u.length : Int)), (15, .int .i64 (D : Int)), (18, .ptr 8 0 0 0), (19, .int .i64 ((c2.way.length : Int) - 1)), (186, .bool false)] [⟨2, true, none, .row (rowMd ml)⟩, ⟨1, true, none, .ints .i64 os⟩, c2.varE false 3 4 5, c2.mapE false, c2.wayE false, c2.orpE false, ⟨66, false, none, .row (rowHd L)⟩, ⟨32, false, none, .row (rowH c2.way)⟩, ⟨32, false, none, .var [.ints .u8 32 c2.tip]⟩] (by rfl) (by rfl) (by rfl) (by (repeat' (first | exact True.intro | exact rfl | refine And.intro ?_ ?_ | (simp [AV.ren, AV.rens, AObj.ren, Ent.ren, AV.inn, AV.inns, AObj.inn, *]; done)))) (by (repeat' (first | exact True.intro | exact rfl | refine And.intro ?_ ?_ | (simp [AV.ren, AV.rens, AObj.ren, Ent.ren, AV.inn, AV.inns, AObj.inn, *]; done)))) ?_)
          exact ⟨rfl, rfl⟩
        | false =>
          (conv => whnf); (repeat (refine Exists.intro _ (And.intro (by (conv => whnf); exact ⟨rfl, rfl⟩) ?_); (conv => whnf)))
          rw [hnn]
          (conv => whnf); (repeat (refine Exists.intro _ (And.intro (by (conv => whnf); exact ⟨rfl, rfl⟩) ?_); (conv => whnf)))
          refine Exists.intro _ (And.intro (by (conv => whnf); exact ⟨by omega, by omega, rfl, rfl⟩) ?_)
          (conv => whnf); (repeat (refine Exists.intro _ (And.intro (by (conv => whnf); exact ⟨rfl, rfl⟩) ?_); (conv => whnf)))
          refine Exists.intro (.agg [.ints .u8 32 c2.tip]) (And.intro (by (conv => whnf); rw [hrt]; exact ⟨rfl, rfl⟩) ?_)
          (conv => whnf); (repeat (refine Exists.intro _ (And.intro (by (conv => whnf); exact ⟨rfl, rfl⟩) ?_); (conv => whnf)))
          rw [hii]
          (conv => whnf)
          rw [hI32]
          subst hv2 hv3 hv4 hv5
          (refine Turned.of [0, 1, 2, 3, 4, 5, 6, 7, 8] [(0, .int .i64 k), (2, .sl 1 0 m (some os.length)), (7, .sl 6 0 (ml.length + 1) none), (8, .ptr 2 0 0 0), (10, .sl 7 0 c2.way.length none), (11, .int .i64 (i : Int)), (14, .int .i64 (u.length : Int)), (15, .int .i64 (D : Int)), (18, .ptr 8 0 0 0), (19, .int .i64 ((c2.way.length : Int) - 1)), (186, .bool false)] [⟨2, true, none, .row (rowMd ml)⟩, ⟨1, true, none, .ints .i64 os⟩, c2.varE false 3 4 5, c2.mapE false, c2.wayE false, c2.orpE false, ⟨66, false, none, .row (rowHd L)⟩, ⟨32, false, none, .row (rowH c2.way)⟩, ⟨32, false, none, .var [.ints .u8 32 c2.tip]⟩] (by rfl) (by rfl) (by rfl) (by (repeat' (first | exact True.intro | exact rfl | refine And.intro ?_ ?_ | (simp [AV.ren, AV.rens, AObj.ren, Ent.ren, AV.inn, AV.inns, AObj.inn, *]; done)))) (by (repeat' (first | exact True.intro | exact rfl | refine And.intro ?_ ?_ | (simp [AV.ren, AV.rens, AObj.ren, Ent.ren, AV.inn, AV.inns, AObj.inn, *]; done)))) ?_)
          exact ⟨rfl, rfl⟩
      rintro fr hp hfh
      rw [hI32] at hfh
      obtain ⟨rfl, rfl⟩ := hfh
      subst hv2 hv3 hv4 hv5
      unfold Ch.varE Ch.mapE Ch.wayE Ch.orpE
      refine ev_sound tokT (keep := fun _ => true) ?_
      (conv => whnf)
      refine ev_sound tokT (keep := fun _ => true) ?_
      (conv => whnf)
      rw [IntWalk.i64_in ((i : Int) + 1) (by omega)]
      (refine Turned.of [0, 1, 2, 3, 4, 5, 6, 7] [(0, .int .i64 k), (2, .sl 1 0 m (some os.length)), (7, .sl 6 0 (ml.length + 1) none), (8, .ptr 2 0 0 0), (10, .sl 7 0 c2.way.length none), (11, .int .i64 ((i + 1 : Nat) : Int))] [⟨2, true, none, .row (rowMd ml)⟩, ⟨1, true, none, .ints .i64 os⟩, c2.varE false 3 4 5, c2.mapE false, c2.wayE false, c2.orpE false, ⟨66, false, none, .row (rowHd L)⟩, ⟨32, false, none, .row (rowH c2.way)⟩] (by rfl) (by rfl) (by rfl) (by (repeat' (first | exact True.intro | exact rfl | refine And.intro ?_ ?_ | (simp [AV.ren, AV.rens, AObj.ren, Ent.ren, AV.inn, AV.inns, AObj.inn, *]; done)))) (by (repeat' (first | exact True.intro | exact rfl | refine And.intro ?_ ?_ | (simp [AV.ren, AV.rens, AObj.ren, Ent.ren, AV.inn, AV.inns, AObj.inn, *]; done)))) ?_)
      exact ⟨m - (i + 1), by omega, i + 1, c2, c2.way, rfl, by omega, k2, t2, hk2e, rfl, rfl, rfl⟩
  rintro fr hp ⟨c, W, rfl, rfl⟩
  unfold Ch.varE Ch.mapE Ch.wayE Ch.orpE
  refine AW.pre tokT (fun _ => true) ?_; (conv => whnf)
  refine AC.pure (v := .bool true) haw (by simp [AV.inns]) (by simp [AV.inn]) ?_
  (conv => whnf)
  refine ev_sound tokT (keep := fun _ => true) ?_
  (conv => whnf)
  (refine Left.of [0, 1] (.bool true) [⟨2, true, none, .row (rowMd ml)⟩, ⟨1, true, none, .ints .i64 os⟩] (by rfl) (by rfl) (by rfl) (by (repeat' (first | exact True.intro | exact rfl | refine And.intro ?_ ?_ | (simp [AV.ren, AV.rens, AObj.ren, Ent.ren, AV.inn, AV.inns, AObj.inn, *]; done)))) (by rfl) (by (repeat' (first | exact True.intro | exact rfl | refine And.intro ?_ ?_ | (simp [AV.ren, AV.rens, AObj.ren, Ent.ren, AV.inn, AV.inns, AObj.inn, *]; done)))) ?_)
  rfl
end Go.Aw
