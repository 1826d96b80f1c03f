/-
  AwCh20: what the document fixes of a chain: the walk. Own work.
-/
import Derived.Test.YtdababcblhbpeaaAwCh19
import Derived.Test.YtdababcblhbpeaaAwCh16
set_option linter.unusedVariables false
set_option linter.unusedSimpArgs false
set_option maxRecDepth 20000
set_option maxHeartbeats 4000000
open Go.Proofs
namespace Go.Aw

theorem halted_nil : AC Try.prog 63 [.con (.pointer none)] [] (fun r hp' => r = .bool true ∧ hp' = []) := by
  refine AC.left (AC.body tokT Try.func63 rfl rfl rfl (by decide) (by rfl) ?_)
  refine AW.pre tokT (fun _ => true) ?_; (conv => whnf)
  refine ev_sound tokT (keep := fun _ => true) ?_
  (conv => whnf)
  (refine Left.of [] (.bool true) [] (by rfl) (by rfl) (by rfl) (by (repeat' (exact True.intro))) (by rfl) (by (repeat' (exact True.intro))) ?_)
  exact ⟨rfl, rfl⟩
theorem add_nil (h : Hdr) : AC Try.prog 61 [.con (.pointer none), h.av] [] (fun r hp' => r = .tup [.con (.slice none 0 0), .int .i64 9] ∧ hp' = []) := by
  refine AC.left (AC.body tokT Try.func61 rfl rfl rfl (by decide) (by rfl) ?_)
  have hn := halted_nil
  refine AW.pre tokT (fun _ => true) ?_; (conv => whnf)
  refine AW.pre tokT (fun _ => true) ?_; (conv => whnf)
  refine AC.pure (v := .bool true) hn (by simp [AV.inns, AV.inn]) (by simp [AV.inn]) ?_
  (conv => whnf)
  (refine Left.of [] (.tup [.con (.slice none 0 0), .int .i64 9]) [] (by rfl) (by rfl) (by rfl) (by (repeat' (first | exact True.intro | refine And.intro ?_ ?_))) (by rfl) (by (repeat' (first | exact True.intro | refine And.intro ?_ ?_))) ?_)
  exact ⟨rfl, rfl⟩
theorem awake_ok : AC Try.prog 57 [] [] (fun r hp' => r = .bool true ∧ hp' = []) := by
  refine AC.left (AC.body tokT Try.func57 rfl rfl rfl (by decide) (by rfl) ?_)
  have hcast := cast_ok [⟨0, 1⟩, ⟨0, 1⟩, ⟨9, 1⟩] (some 3) (by decide)
  rw [cast_awake] at hcast
  have hm0 : newB gen0 5 0 = true := by unfold newB mayB; decide
  have hnew := new_ok gen0 5 0 gen0_wf hm0
  rw [new_awake] at hnew
  have hbad := new_bad gen0 0 0 (.inr trivial) (by decide)
  obtain ⟨k0, t0⟩ := new_inv gen0 5 0 gen0_wf hm0
  rw [new_awake] at k0 t0
  have w1 : G1.wf := ⟨by decide, by decide⟩
  have w2 : G2.wf := ⟨by decide, by decide⟩
  have w3 : G3.wf := ⟨by decide, by decide⟩
  obtain ⟨k1, t1⟩ := adds_inv k0 t0 (by decide) G1 w1
  have a1 := add_ok C0 k0 t0 (by decide) G1 w1
  rw [add_1] at a1 k1 t1
  obtain ⟨k2, t2⟩ := adds_inv k1 t1 (by decide) G2 w2
  have a2 := add_ok C1 k1 t1 (by decide) G2 w2
  rw [add_2] at a2 k2 t2
  obtain ⟨k3, t3⟩ := adds_inv k2 t2 (by decide) G3 w3
  have a3 := add_ok C2 k2 t2 (by decide) G3 w3
  rw [add_3] at a3 k3 t3
  have a4 := add_ok C2 k2 t2 (by decide) G1 w1
  rw [add_4] at a4
  have htip := tip_ok C2 (by decide) (by decide) (by decide)
  have hri := refid_ok G1 w1
  rw [hid_1] at hri
  have hhn := halted_nil
  have han := add_nil G1
  refine AW.pre tokT (fun _ => true) ?_; (conv => whnf)
  refine AW.pre tokT (fun _ => true) ?_; (conv => whnf)
  refine AC.frame hcast [0] (by (repeat' (first | exact True.intro | exact rfl | refine And.intro ?_ ?_ | (simp [AV.ren, AV.rens, AObj.ren, Ent.ren, AV.inn, AV.inns, AObj.inn, *]; done)))) (by rfl) (by (repeat' (first | exact True.intro | refine And.intro ?_ ?_ | (simp [AV.ren, AV.rens, AObj.ren, Ent.ren, AV.inn, AV.inns, AObj.inn, *]; done)))) (by rfl) ?_
  rintro r0 hp0 ⟨rfl, rfl⟩
  (conv => whnf)
  (refine AW.turnL [1] [(1, .sl 0 0 4 none)] [⟨66, false, none, .row (rowHd [gen0, G1, G2, G3])⟩] (by rfl) (by rfl) (by rfl) (by (repeat' (first | exact True.intro | exact rfl | refine And.intro ?_ ?_ | (simp [AV.ren, AV.rens, AObj.ren, Ent.ren, AV.inn, AV.inns, AObj.inn, *]; done)))) (by (repeat' (first | exact True.intro | exact rfl | refine And.intro ?_ ?_ | (simp [AV.ren, AV.rens, AObj.ren, Ent.ren, AV.inn, AV.inns, AObj.inn, *]; done)))) ?_)
  refine AW.cutT (fun fr hp => fr = [(1, .sl 4 0 4 none), (2, .ptr 0 0 0 0), (3, .int .i64 0)] ∧ hp = [C0.varE false 1 2 3, C0.mapE false, C0.wayE false, C0.orpE false, ⟨66, false, none, .row (rowHd [gen0, G1, G2, G3])⟩]) ?_ ?_
  · refine ev_sound tokT (keep := fun _ => true) ?_
    ((conv => whnf); (repeat (((refine And.intro (by omega) ?_); (conv => whnf)))))
    refine AC.frame hnew [] (by (repeat' (exact True.intro))) (by rfl) (by (repeat' (first | exact True.intro | refine And.intro ?_ ?_))) (by rfl) ?_
    rintro r0 hp0 ⟨rfl, rfl⟩
    (conv => whnf)
    (refine Turned.of [1, 2, 3, 4, 0] [(1, .sl 4 0 4 none), (2, .ptr 0 0 0 0), (3, .int .i64 0)] [C0.varE false 1 2 3, C0.mapE false, C0.wayE false, C0.orpE false, ⟨66, false, none, .row (rowHd [gen0, G1, G2, G3])⟩] (by rfl) (by rfl) (by rfl) (by (repeat' (first | exact True.intro | exact rfl | refine And.intro ?_ ?_ | (simp [AV.ren, AV.rens, AObj.ren, Ent.ren, AV.inn, AV.inns, AObj.inn, *]; done)))) (by (repeat' (first | exact True.intro | exact rfl | refine And.intro ?_ ?_ | (simp [AV.ren, AV.rens, AObj.ren, Ent.ren, AV.inn, AV.inns, AObj.inn, *]; done)))) ?_)
    exact ⟨rfl, rfl⟩
  rintro fr hp ⟨rfl, rfl⟩
  refine AW.cutT (fun fr hp => fr = [(1, .sl 4 0 4 none), (2, .ptr 0 0 0 0), (3, .int .i64 0), (5, .int .i64 1)] ∧ hp = [C0.varE false 1 2 3, C0.mapE false, C0.wayE false, C0.orpE false, ⟨66, false, none, .row (rowHd [gen0, G1, G2, G3])⟩]) ?_ ?_
  · unfold Ch.varE Ch.mapE Ch.wayE Ch.orpE
    refine ev_sound tokT (keep := fun _ => true) ?_
    ((conv => whnf); (repeat (((refine And.intro (by omega) ?_); (conv => whnf)))))
    refine AC.pure (v := .tup [.con (.pointer none), .int .i64 1]) hbad (by simp [AV.inns, AV.inn]) (by simp [AV.inn, AV.inns]) ?_
    (conv => whnf)
    (refine Turned.of [0, 1, 2, 3, 4] [(1, .sl 4 0 4 none), (2, .ptr 0 0 0 0), (3, .int .i64 0), (5, .int .i64 1)] [C0.varE false 1 2 3, C0.mapE false, C0.wayE false, C0.orpE false, ⟨66, false, none, .row (rowHd [gen0, G1, G2, G3])⟩] (by rfl) (by rfl) (by rfl) (by (repeat' (first | exact True.intro | exact rfl | refine And.intro ?_ ?_ | (simp [AV.ren, AV.rens, AObj.ren, Ent.ren, AV.inn, AV.inns, AObj.inn, *]; done)))) (by (repeat' (first | exact True.intro | exact rfl | refine And.intro ?_ ?_ | (simp [AV.ren, AV.rens, AObj.ren, Ent.ren, AV.inn, AV.inns, AObj.inn, *]; done)))) ?_)
    exact ⟨rfl, rfl⟩
  rintro fr hp ⟨rfl, rfl⟩
  refine AW.cutT (fun fr hp => fr = [(1, .sl 4 0 4 none), (2, .ptr 0 0 0 0)] ∧ hp = [C0.varE false 1 2 3, C0.mapE false, C0.wayE false, C0.orpE false, ⟨66, false, none, .row (rowHd [gen0, G1, G2, G3])⟩]) ?_ ?_
  · unfold Ch.varE Ch.mapE Ch.wayE Ch.orpE
    refine ev_sound tokT (keep := fun _ => true) ?_
    (conv => whnf)
    (refine Turned.of [0, 1, 2, 3, 4] [(1, .sl 4 0 4 none), (2, .ptr 0 0 0 0)] [C0.varE false 1 2 3, C0.mapE false, C0.wayE false, C0.orpE false, ⟨66, false, none, .row (rowHd [gen0, G1, G2, G3])⟩] (by rfl) (by rfl) (by rfl) (by (repeat' (first | exact True.intro | exact rfl | refine And.intro ?_ ?_ | (simp [AV.ren, AV.rens, AObj.ren, Ent.ren, AV.inn, AV.inns, AObj.inn, *]; done)))) (by (repeat' (first | exact True.intro | exact rfl | refine And.intro ?_ ?_ | (simp [AV.ren, AV.rens, AObj.ren, Ent.ren, AV.inn, AV.inns, AObj.inn, *]; done)))) ?_)
    exact ⟨rfl, rfl⟩
  rintro fr hp ⟨rfl, rfl⟩
  refine AW.cutT (fun fr hp => fr = [(1, .sl 4 0 4 none), (2, .ptr 0 0 0 0), (6, .sl 5 0 1 none), (7, .int .i64 0)] ∧ hp = [C1.varE false 1 2 3, C1.mapE false, C1.wayE false, C1.orpE false, ⟨66, false, none, .row (rowHd [gen0, G1, G2, G3])⟩, ⟨34, false, none, .row (rowE [⟨1, A1, 1⟩])⟩]) ?_ ?_
  · unfold Ch.varE Ch.mapE Ch.wayE Ch.orpE
    refine ev_sound tokT (keep := fun _ => true) ?_
    ((conv => whnf); (repeat (((refine And.intro (by omega) ?_); (conv => whnf)))))
    refine AC.frame a1 [0, 1, 2, 3] (by (repeat' (first | exact True.intro | exact rfl | refine And.intro ?_ ?_ | (simp [AV.ren, AV.rens, AObj.ren, Ent.ren, AV.inn, AV.inns, AObj.inn, *]; done)))) (by rfl) (by (repeat' (first | exact True.intro | refine And.intro ?_ ?_ | (simp [AV.ren, AV.rens, AObj.ren, Ent.ren, AV.inn, AV.inns, AObj.inn, *]; done)))) (by rfl) ?_
    rintro r0 hp0 ⟨rfl, rfl⟩
    (conv => whnf)
    (refine Turned.of [0, 1, 5, 6, 4, 7] [(1, .sl 4 0 4 none), (2, .ptr 0 0 0 0), (6, .sl 5 0 1 none), (7, .int .i64 0)] [C1.varE false 1 2 3, C1.mapE false, C1.wayE false, C1.orpE false, ⟨66, false, none, .row (rowHd [gen0, G1, G2, G3])⟩, ⟨34, false, none, .row (rowE [⟨1, A1, 1⟩])⟩] (by rfl) (by rfl) (by rfl) (by (repeat' (first | exact True.intro | exact rfl | refine And.intro ?_ ?_ | (simp [AV.ren, AV.rens, AObj.ren, Ent.ren, AV.inn, AV.inns, AObj.inn, *]; done)))) (by (repeat' (first | exact True.intro | exact rfl | refine And.intro ?_ ?_ | (simp [AV.ren, AV.rens, AObj.ren, Ent.ren, AV.inn, AV.inns, AObj.inn, *]; done)))) ?_)
    exact ⟨rfl, rfl⟩
  rintro fr hp ⟨rfl, rfl⟩
  refine AW.cutT (fun fr hp => fr = [(1, .sl 4 0 4 none), (2, .ptr 0 0 0 0), (6, .sl 5 0 1 none), (7, .int .i64 0), (8, .sl 6 0 0 none), (9, .int .i64 0)] ∧ hp = [C2.varE false 1 2 3, C2.mapE false, C2.wayE false, C2.orpE false, ⟨66, false, none, .row (rowHd [gen0, G1, G2, G3])⟩, ⟨34, false, none, .row (rowE [⟨1, A1, 1⟩])⟩, ⟨34, false, none, .row (rowE [])⟩]) ?_ ?_
  · unfold Ch.varE Ch.mapE Ch.wayE Ch.orpE
    refine ev_sound tokT (keep := fun _ => true) ?_
    ((conv => whnf); (repeat (((refine And.intro (by omega) ?_); (conv => whnf)))))
    refine AC.frame a2 [0, 1, 2, 3] (by (repeat' (first | exact True.intro | exact rfl | refine And.intro ?_ ?_ | (simp [AV.ren, AV.rens, AObj.ren, Ent.ren, AV.inn, AV.inns, AObj.inn, *]; done)))) (by rfl) (by (repeat' (first | exact True.intro | refine And.intro ?_ ?_ | (simp [AV.ren, AV.rens, AObj.ren, Ent.ren, AV.inn, AV.inns, AObj.inn, *]; done)))) (by rfl) ?_
    rintro r0 hp0 ⟨rfl, rfl⟩
    (conv => whnf)
    (refine Turned.of [0, 1, 6, 7, 4, 5, 8] [(1, .sl 4 0 4 none), (2, .ptr 0 0 0 0), (6, .sl 5 0 1 none), (7, .int .i64 0), (8, .sl 6 0 0 none), (9, .int .i64 0)] [C2.varE false 1 2 3, C2.mapE false, C2.wayE false, C2.orpE false, ⟨66, false, none, .row (rowHd [gen0, G1, G2, G3])⟩, ⟨34, false, none, .row (rowE [⟨1, A1, 1⟩])⟩, ⟨34, false, none, .row (rowE [])⟩] (by rfl) (by rfl) (by rfl) (by (repeat' (first | exact True.intro | exact rfl | refine And.intro ?_ ?_ | (simp [AV.ren, AV.rens, AObj.ren, Ent.ren, AV.inn, AV.inns, AObj.inn, *]; done)))) (by (repeat' (first | exact True.intro | exact rfl | refine And.intro ?_ ?_ | (simp [AV.ren, AV.rens, AObj.ren, Ent.ren, AV.inn, AV.inns, AObj.inn, *]; done)))) ?_)
    exact ⟨rfl, rfl⟩
  rintro fr hp ⟨rfl, rfl⟩
  refine AW.cutT (fun fr hp => fr = [(1, .sl 4 0 4 none), (2, .ptr 0 0 0 0), (6, .sl 5 0 1 none), (7, .int .i64 0), (8, .sl 6 0 0 none), (9, .int .i64 0), (11, .int .i64 4)] ∧ hp = [C2.varE false 1 2 3, C2.mapE false, C2.wayE false, C2.orpE false, ⟨66, false, none, .row (rowHd [gen0, G1, G2, G3])⟩, ⟨34, false, none, .row (rowE [⟨1, A1, 1⟩])⟩, ⟨34, false, none, .row (rowE [])⟩]) ?_ ?_
  · unfold Ch.varE Ch.mapE Ch.wayE Ch.orpE
    refine ev_sound tokT (keep := fun _ => true) ?_
    ((conv => whnf); (repeat (((refine And.intro (by omega) ?_); (conv => whnf)))))
    refine AC.frame a3 [0, 1, 2, 3] (by (repeat' (first | exact True.intro | exact rfl | refine And.intro ?_ ?_ | (simp [AV.ren, AV.rens, AObj.ren, Ent.ren, AV.inn, AV.inns, AObj.inn, *]; done)))) (by rfl) (by (repeat' (first | exact True.intro | refine And.intro ?_ ?_ | (simp [AV.ren, AV.rens, AObj.ren, Ent.ren, AV.inn, AV.inns, AObj.inn, *]; done)))) (by rfl) ?_
    rintro r0 hp0 ⟨rfl, rfl⟩
    (conv => whnf)
    (refine Turned.of [0, 1, 7, 8, 4, 5, 6] [(1, .sl 4 0 4 none), (2, .ptr 0 0 0 0), (6, .sl 5 0 1 none), (7, .int .i64 0), (8, .sl 6 0 0 none), (9, .int .i64 0), (11, .int .i64 4)] [C2.varE false 1 2 3, C2.mapE false, C2.wayE false, C2.orpE false, ⟨66, false, none, .row (rowHd [gen0, G1, G2, G3])⟩, ⟨34, false, none, .row (rowE [⟨1, A1, 1⟩])⟩, ⟨34, false, none, .row (rowE [])⟩] (by rfl) (by rfl) (by rfl) (by (repeat' (first | exact True.intro | exact rfl | refine And.intro ?_ ?_ | (simp [AV.ren, AV.rens, AObj.ren, Ent.ren, AV.inn, AV.inns, AObj.inn, *]; done)))) (by (repeat' (first | exact True.intro | exact rfl | refine And.intro ?_ ?_ | (simp [AV.ren, AV.rens, AObj.ren, Ent.ren, AV.inn, AV.inns, AObj.inn, *]; done)))) ?_)
    exact ⟨rfl, rfl⟩
  rintro fr hp ⟨rfl, rfl⟩
  refine AW.cutT (fun fr hp => fr = [(1, .sl 4 0 4 none), (2, .ptr 0 0 0 0), (6, .sl 5 0 1 none), (7, .int .i64 0), (8, .sl 6 0 0 none), (9, .int .i64 0), (11, .int .i64 4), (13, .int .i64 6)] ∧ hp = [C2.varE false 1 2 3, C2.mapE false, C2.wayE false, C2.orpE false, ⟨66, false, none, .row (rowHd [gen0, G1, G2, G3])⟩, ⟨34, false, none, .row (rowE [⟨1, A1, 1⟩])⟩, ⟨34, false, none, .row (rowE [])⟩]) ?_ ?_
  · unfold Ch.varE Ch.mapE Ch.wayE Ch.orpE
    refine ev_sound tokT (keep := fun _ => true) ?_
    ((conv => whnf); (repeat (((refine And.intro (by omega) ?_); (conv => whnf)))))
    refine AC.frame a4 [0, 1, 2, 3] (by (repeat' (first | exact True.intro | exact rfl | refine And.intro ?_ ?_ | (simp [AV.ren, AV.rens, AObj.ren, Ent.ren, AV.inn, AV.inns, AObj.inn, *]; done)))) (by rfl) (by (repeat' (first | exact True.intro | refine And.intro ?_ ?_ | (simp [AV.ren, AV.rens, AObj.ren, Ent.ren, AV.inn, AV.inns, AObj.inn, *]; done)))) (by rfl) ?_
    rintro r0 hp0 ⟨rfl, rfl⟩
    (conv => whnf)
    (refine Turned.of [0, 1, 7, 8, 4, 5, 6] [(1, .sl 4 0 4 none), (2, .ptr 0 0 0 0), (6, .sl 5 0 1 none), (7, .int .i64 0), (8, .sl 6 0 0 none), (9, .int .i64 0), (11, .int .i64 4), (13, .int .i64 6)] [C2.varE false 1 2 3, C2.mapE false, C2.wayE false, C2.orpE false, ⟨66, false, none, .row (rowHd [gen0, G1, G2, G3])⟩, ⟨34, false, none, .row (rowE [⟨1, A1, 1⟩])⟩, ⟨34, false, none, .row (rowE [])⟩] (by rfl) (by rfl) (by rfl) (by (repeat' (first | exact True.intro | exact rfl | refine And.intro ?_ ?_ | (simp [AV.ren, AV.rens, AObj.ren, Ent.ren, AV.inn, AV.inns, AObj.inn, *]; done)))) (by (repeat' (first | exact True.intro | exact rfl | refine And.intro ?_ ?_ | (simp [AV.ren, AV.rens, AObj.ren, Ent.ren, AV.inn, AV.inns, AObj.inn, *]; done)))) ?_)
    exact ⟨rfl, rfl⟩
  rintro fr hp ⟨rfl, rfl⟩
  refine AW.cutT (fun fr hp => fr = [(1, .sl 4 0 4 none), (2, .ptr 0 0 0 0), (6, .sl 5 0 1 none), (7, .int .i64 0), (8, .sl 6 0 0 none), (9, .int .i64 0), (11, .int .i64 4), (13, .int .i64 6), (14, .ptr 7 0 0 0), (15, .int .i64 1)] ∧ hp = [C2.varE false 1 2 3, C2.mapE false, C2.wayE false, C2.orpE false, ⟨66, false, none, .row (rowHd [gen0, G1, G2, G3])⟩, ⟨34, false, none, .row (rowE [⟨1, A1, 1⟩])⟩, ⟨34, false, none, .row (rowE [])⟩, ⟨32, false, none, .var [.ints .u8 32 A1]⟩]) ?_ ?_
  · unfold Ch.varE Ch.mapE Ch.wayE Ch.orpE
    refine ev_sound tokT (keep := fun _ => true) ?_
    (conv => whnf)
    refine AC.frame htip [0, 1, 2, 3] (by (repeat' (first | exact True.intro | exact rfl | refine And.intro ?_ ?_ | (simp [AV.ren, AV.rens, AObj.ren, Ent.ren, AV.inn, AV.inns, AObj.inn, *]; done)))) (by rfl) (by (repeat' (first | exact True.intro | refine And.intro ?_ ?_ | (simp [AV.ren, AV.rens, AObj.ren, Ent.ren, AV.inn, AV.inns, AObj.inn, *]; done)))) (by rfl) ?_
    rintro r0 hp0 ⟨rfl, rfl⟩
    (conv => whnf)
    (refine Turned.of [0, 1, 2, 3, 4, 5, 6, 7] [(1, .sl 4 0 4 none), (2, .ptr 0 0 0 0), (6, .sl 5 0 1 none), (7, .int .i64 0), (8, .sl 6 0 0 none), (9, .int .i64 0), (11, .int .i64 4), (13, .int .i64 6), (14, .ptr 7 0 0 0), (15, .int .i64 1)] [C2.varE false 1 2 3, C2.mapE false, C2.wayE false, C2.orpE false, ⟨66, false, none, .row (rowHd [gen0, G1, G2, G3])⟩, ⟨34, false, none, .row (rowE [⟨1, A1, 1⟩])⟩, ⟨34, false, none, .row (rowE [])⟩, ⟨32, false, none, .var [.ints .u8 32 A1]⟩] (by rfl) (by rfl) (by rfl) (by (repeat' (first | exact True.intro | exact rfl | refine And.intro ?_ ?_ | (simp [AV.ren, AV.rens, AObj.ren, Ent.ren, AV.inn, AV.inns, AObj.inn, *]; done)))) (by (repeat' (first | exact True.intro | exact rfl | refine And.intro ?_ ?_ | (simp [AV.ren, AV.rens, AObj.ren, Ent.ren, AV.inn, AV.inns, AObj.inn, *]; done)))) ?_)
    exact ⟨rfl, rfl⟩
  rintro fr hp ⟨rfl, rfl⟩
  refine AW.cutT (fun fr hp => fr = [(1, .sl 4 0 4 none), (2, .ptr 0 0 0 0), (6, .sl 5 0 1 none), (7, .int .i64 0), (8, .sl 6 0 0 none), (9, .int .i64 0), (11, .int .i64 4), (13, .int .i64 6), (14, .ptr 7 0 0 0), (15, .int .i64 1), (16, .con (.pointer none))] ∧ hp = [C2.varE false 1 2 3, C2.mapE false, C2.wayE false, C2.orpE false, ⟨66, false, none, .row (rowHd [gen0, G1, G2, G3])⟩, ⟨34, false, none, .row (rowE [⟨1, A1, 1⟩])⟩, ⟨34, false, none, .row (rowE [])⟩, ⟨32, false, none, .var [.ints .u8 32 A1]⟩]) ?_ ?_
  · unfold Ch.varE Ch.mapE Ch.wayE Ch.orpE
    refine ev_sound tokT (keep := fun _ => true) ?_
    (conv => whnf)
    (refine Turned.of [0, 1, 2, 3, 4, 5, 6, 7] [(1, .sl 4 0 4 none), (2, .ptr 0 0 0 0), (6, .sl 5 0 1 none), (7, .int .i64 0), (8, .sl 6 0 0 none), (9, .int .i64 0), (11, .int .i64 4), (13, .int .i64 6), (14, .ptr 7 0 0 0), (15, .int .i64 1), (16, .con (.pointer none))] [C2.varE false 1 2 3, C2.mapE false, C2.wayE false, C2.orpE false, ⟨66, false, none, .row (rowHd [gen0, G1, G2, G3])⟩, ⟨34, false, none, .row (rowE [⟨1, A1, 1⟩])⟩, ⟨34, false, none, .row (rowE [])⟩, ⟨32, false, none, .var [.ints .u8 32 A1]⟩] (by rfl) (by rfl) (by rfl) (by (repeat' (first | exact True.intro | exact rfl | refine And.intro ?_ ?_ | (simp [AV.ren, AV.rens, AObj.ren, Ent.ren, AV.inn, AV.inns, AObj.inn, *]; done)))) (by (repeat' (first | exact True.intro | exact rfl | refine And.intro ?_ ?_ | (simp [AV.ren, AV.rens, AObj.ren, Ent.ren, AV.inn, AV.inns, AObj.inn, *]; done)))) ?_)
    exact ⟨rfl, rfl⟩
  rintro fr hp ⟨rfl, rfl⟩
  refine AW.cutT (fun fr hp => fr = [(1, .sl 4 0 4 none), (2, .ptr 0 0 0 0), (6, .sl 5 0 1 none), (7, .int .i64 0), (8, .sl 6 0 0 none), (9, .int .i64 0), (11, .int .i64 4), (13, .int .i64 6), (14, .ptr 7 0 0 0), (15, .int .i64 1), (16, .con (.pointer none)), (18, .int .i64 9)] ∧ hp = [C2.varE false 1 2 3, C2.mapE false, C2.wayE false, C2.orpE false, ⟨66, false, none, .row (rowHd [gen0, G1, G2, G3])⟩, ⟨34, false, none, .row (rowE [⟨1, A1, 1⟩])⟩, ⟨34, false, none, .row (rowE [])⟩, ⟨32, false, none, .var [.ints .u8 32 A1]⟩]) ?_ ?_
  · unfold Ch.varE Ch.mapE Ch.wayE Ch.orpE
    refine ev_sound tokT (keep := fun _ => true) ?_
    ((conv => whnf); (repeat (((refine And.intro (by omega) ?_); (conv => whnf)))))
    refine AC.pure (v := .tup [.con (.slice none 0 0), .int .i64 9]) han (by simp [AV.inns, AV.inn]) (by simp [AV.inn, AV.inns]) ?_
    (conv => whnf)
    (refine Turned.of [0, 1, 2, 3, 4, 5, 6, 7] [(1, .sl 4 0 4 none), (2, .ptr 0 0 0 0), (6, .sl 5 0 1 none), (7, .int .i64 0), (8, .sl 6 0 0 none), (9, .int .i64 0), (11, .int .i64 4), (13, .int .i64 6), (14, .ptr 7 0 0 0), (15, .int .i64 1), (16, .con (.pointer none)), (18, .int .i64 9)] [C2.varE false 1 2 3, C2.mapE false, C2.wayE false, C2.orpE false, ⟨66, false, none, .row (rowHd [gen0, G1, G2, G3])⟩, ⟨34, false, none, .row (rowE [⟨1, A1, 1⟩])⟩, ⟨34, false, none, .row (rowE [])⟩, ⟨32, false, none, .var [.ints .u8 32 A1]⟩] (by rfl) (by rfl) (by rfl) (by (repeat' (first | exact True.intro | exact rfl | refine And.intro ?_ ?_ | (simp [AV.ren, AV.rens, AObj.ren, Ent.ren, AV.inn, AV.inns, AObj.inn, *]; done)))) (by (repeat' (first | exact True.intro | exact rfl | refine And.intro ?_ ?_ | (simp [AV.ren, AV.rens, AObj.ren, Ent.ren, AV.inn, AV.inns, AObj.inn, *]; done)))) ?_)
    exact ⟨rfl, rfl⟩
  rintro fr hp ⟨rfl, rfl⟩
  unfold Ch.varE Ch.mapE Ch.wayE Ch.orpE
  refine AW.seq (AW.drawT (.pure 0 (.pure 1 (.pure 2 (.pure 3 (.pure 4 (.pure 5 (.pure 6 (.pure 7 (.pure 8 (.pure 9 (.pure 10 (.pure 11 (.pure 12 (.pure 13 (.pure 14 (.pure 15 (.pure 16 (.pure 17 (.pure 18 (.pure 19 (.pure 20 (.pure 21 (.pure 22 (.pure 23 (.pure 24 (.pure 25 (.pure 26 (.pure 27 (.pure 28 (.pure 29 (.pure 30 (.pure 31 (.pure 32 (.pure 33 (.pure 34 (.pure 35 (.one 36 (.pure 37 (.pure 38 (.pure 39 (.pure 40 (.pure 41 (.pure 42 (.pure 43 (.pure 44 (.pure 45 (.pure 46 (.pure 47 (.pure 48 (.one 49 (.pure 50 (.pure 51 .fin)))))))))))))))))))))))))))))))))))))))))))))))))))) (keep := fun _ => true) mixed_okC tokT (by kernel_rfl) (by kernel_rfl) ?_)
  ((conv => whnf); (repeat (((refine Exists.intro _ (And.intro (by ((conv => whnf); (repeat ((refine And.intro (by first | exact rfl | omega) ?_); (conv => whnf))))) ?_)); (conv => whnf)))))
  refine AC.pure (v := .agg [.ints .u8 32 A1]) hri (by simp [AV.inns, AV.inn]) (by simp [AV.inn, AV.inns]) ?_
  ((conv => whnf); (repeat (first | ((with_reducible (refine And.intro (show Go.Aw.againsK _ _ _ _ _ from ?_) ?_)); (focus (repeat' (first | ((with_reducible (show Go.Aw.againsK _ _ _ _ _)); (conv => whnf)) | ((with_reducible (show Go.Aw.againK _ _ _ _ _)); (conv => whnf)) | (with_reducible (exact True.intro)) | (with_reducible (refine And.intro ?_ ?_)) | exact rfl | omega))); (conv => whnf)) | ((refine Exists.intro _ (And.intro (by ((conv => whnf); (repeat ((refine And.intro (by exact rfl) ?_); (conv => whnf))))) ?_)); (conv => whnf)))))
  refine AC.pure (v := .bool true) hhn (by simp [AV.inns, AV.inn]) (by simp [AV.inn]) ?_
  ((conv => whnf); (repeat (first | ((with_reducible (refine And.intro (show Go.Aw.againsK _ _ _ _ _ from ?_) ?_)); (focus (repeat' (first | ((with_reducible (show Go.Aw.againsK _ _ _ _ _)); (conv => whnf)) | ((with_reducible (show Go.Aw.againK _ _ _ _ _)); (conv => whnf)) | (with_reducible (exact True.intro)) | (with_reducible (refine And.intro ?_ ?_)) | exact rfl | omega))); (conv => whnf)) | ((refine Exists.intro _ (And.intro (by ((conv => whnf); (repeat ((refine And.intro (by exact rfl) ?_); (conv => whnf))))) ?_)); (conv => whnf)))))
  refine ev_sound tokT (keep := fun _ => true) ?_
  (conv => whnf)
  (refine Left.of [] (.bool true) [] (by rfl) (by rfl) (by rfl) (by (repeat' (exact True.intro))) (by rfl) (by (repeat' (exact True.intro))) ?_)
  exact ⟨rfl, rfl⟩
end Go.Aw
