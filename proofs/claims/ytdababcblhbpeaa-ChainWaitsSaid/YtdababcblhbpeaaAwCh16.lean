/-
  AwCh16: a header is added: the walk. Own work.
-/
import Derived.Test.YtdababcblhbpeaaAwCh15
import Derived.Test.YtdababcblhbpeaaAwCh12
import Derived.Test.YtdababcblhbpeaaAwCh14
set_option linter.unusedVariables false
set_option linter.unusedSimpArgs false
set_option maxRecDepth 20000
set_option maxHeartbeats 4000000
open Go.Proofs
namespace Go.Aw

theorem add_ok (c : Ch) {N : Nat} (hc : KOk c N) (ht : Tree c) (hN : N + 1 ≤ 100000) (h : Hdr) (hw : h.wf) :
    AC Try.prog 61 [.ptr 0 0 0 0, h.av] [c.varE false 1 2 3, c.mapE false, c.wayE false, c.orpE false]
      (fun r hp' => r = .tup [.sl 6 0 (addC c h).2.1.length none, .int .i64 (addC c h).2.2] ∧ hp' = [(addC c h).1.varE false 1 4 5, (addC c h).1.mapE false, ⟨32, false, none, .gone⟩, ⟨98, false, none, .gone⟩, (addC c h).1.wayE false, (addC c h).1.orpE false, ⟨34, false, none, .row (rowE (addC c h).2.1)⟩]) := by
  refine AC.left (AC.body tokT Try.func61 rfl rfl rfl (by decide) (by rfl) ?_)
  have hha := halted_ok c hc.way.1
  have hmy := may_ok h
  have hio : h.may → AC Try.prog 89 _ _ _ := fun q => id_ok h hw (may_fits q).1 (may_fits q).2
  have hcn := contains_ok c (hidOf h) (hid_len h) none hc.orps hc.orpn
  have hkn := known_ok c (hidOf h) (hid_len h)
  have hkp := known_ok c h.prev hw.prev
  obtain ⟨hL, hhL⟩ : ∃ x, c.halted = x := ⟨_, rfl⟩
  rw [hhL] at hha
  unfold Ch.varE Ch.mapE Ch.wayE Ch.orpE at hha hcn hkn hkp
  refine AW.cutT (fun fr hp => fr = [(0, .ptr 0 0 0 0), (3, .ptr 4 0 0 0)] ∧ hp = [c.varE false 1 2 3, c.mapE false, c.wayE false, c.orpE false, ⟨66, false, none, .var h.segs⟩]) ?_ ?_
  · unfold Ch.varE Ch.mapE Ch.wayE Ch.orpE
    refine ev_sound tokT (keep := fun _ => true) ?_
    (conv => whnf)
    (refine Turned.of [0, 1, 2, 3, 4] [(0, .ptr 0 0 0 0), (3, .ptr 4 0 0 0)] [c.varE false 1 2 3, c.mapE false, c.wayE false, c.orpE false, ⟨66, false, none, .var h.segs⟩] (by rfl) (by rfl) (by rfl) (by (repeat' (first | exact True.intro | exact rfl | refine And.intro ?_ ?_ | (simp [AV.ren, AV.rens, AObj.ren, Ent.ren, AV.inn, AV.inns, AObj.inn, *]; done)))) (by (repeat' (first | exact True.intro | exact rfl | refine And.intro ?_ ?_ | (simp [AV.ren, AV.rens, AObj.ren, Ent.ren, AV.inn, AV.inns, AObj.inn, *]; done)))) ?_)
    exact ⟨rfl, rfl⟩
  rintro fr hp ⟨rfl, rfl⟩
  -- halted
  refine AW.cutT (fun fr hp => hL = false ∧ fr = [(0, .ptr 0 0 0 0), (3, .ptr 4 0 0 0)] ∧ hp = [c.varE false 1 2 3, c.mapE false, c.wayE false, c.orpE false, ⟨66, false, none, .var h.segs⟩]) ?_ ?_
  · unfold Ch.varE Ch.mapE Ch.wayE Ch.orpE
    refine AW.pre tokT (fun _ => true) ?_; (conv => whnf)
    refine AC.frame hha [0, 1, 2, 3] (by (repeat' (first | exact True.intro | exact rfl | refine And.intro ?_ ?_ | (simp [AV.ren, AV.rens, AObj.ren, Ent.ren, AV.inn, AV.inns, AObj.inn, *]; done)))) (by rfl) (by (repeat' (first | exact True.intro | refine And.intro ?_ ?_ | (simp [AV.ren, AV.rens, AObj.ren, Ent.ren, AV.inn, AV.inns, AObj.inn, *]; done)))) (by rfl) ?_
    rintro r0 hp0 ⟨rfl, rfl⟩
    (conv => whnf)
    refine AW.condK ?_
    (conv => whnf)
    cases hL with
    | true =>
      have hadd : addC c h = (c, [], 9) := by unfold addC; rw [hhL]
      rw [hadd]
      (conv => whnf)
      refine AW.pre tokT (fun _ => true) ?_; (conv => whnf)
      refine AW.nils [4] 34 (.row []) _ _ rfl rfl rfl ?_
      refine ev_sound tokT (keep := fun _ => true) ?_
      (conv => whnf)
      (refine Left.of [0, 1, 2, 3, 2, 3, 5] (.tup [.sl 6 0 0 none, .int .i64 9]) [c.varE false 1 4 5, c.mapE false, ⟨32, false, none, .gone⟩, ⟨98, false, none, .gone⟩, c.wayE false, c.orpE false, ⟨34, false, none, .row []⟩] (by rfl) (by rfl) (by rfl) (by (repeat' (first | exact True.intro | exact rfl | refine And.intro ?_ ?_ | (simp [AV.ren, AV.rens, AObj.ren, Ent.ren, AV.inn, AV.inns, AObj.inn, *]; done)))) (by rfl) (by (repeat' (first | exact True.intro | exact rfl | refine And.intro ?_ ?_ | (simp [AV.ren, AV.rens, AObj.ren, Ent.ren, AV.inn, AV.inns, AObj.inn, *]; done)))) ?_)
      exact ⟨rfl, rfl⟩
    | false =>
      refine ev_sound tokT (keep := fun _ => true) ?_
      (conv => whnf)
      (refine Turned.of [0, 1, 2, 3, 4] [(0, .ptr 0 0 0 0), (3, .ptr 4 0 0 0)] [c.varE false 1 2 3, c.mapE false, c.wayE false, c.orpE false, ⟨66, false, none, .var h.segs⟩] (by rfl) (by rfl) (by rfl) (by (repeat' (first | exact True.intro | exact rfl | refine And.intro ?_ ?_ | (simp [AV.ren, AV.rens, AObj.ren, Ent.ren, AV.inn, AV.inns, AObj.inn, *]; done)))) (by (repeat' (first | exact True.intro | exact rfl | refine And.intro ?_ ?_ | (simp [AV.ren, AV.rens, AObj.ren, Ent.ren, AV.inn, AV.inns, AObj.inn, *]; done)))) ?_)
      exact ⟨rfl, rfl, rfl⟩
  rintro fr hp ⟨rfl, rfl, rfl⟩
  -- a header that may not be
  obtain ⟨mb, hmb⟩ : ∃ x, mayB h = x := ⟨_, rfl⟩
  rw [hmb] at hmy
  refine AW.cutT (fun fr hp => mb = true ∧ fr = [(0, .ptr 0 0 0 0), (3, .ptr 4 0 0 0)] ∧ hp = [c.varE false 1 2 3, c.mapE false, c.wayE false, c.orpE false, ⟨66, false, none, .var h.segs⟩]) ?_ ?_
  · unfold Ch.varE Ch.mapE Ch.wayE Ch.orpE
    refine AW.pre tokT (fun _ => true) ?_; (conv => whnf)
    refine AC.pure (v := .bool mb) hmy (by simp [AV.inns, AV.inn]) (by simp [AV.inn]) ?_
    (conv => whnf)
    refine AW.condK ?_
    (conv => whnf)
    cases mb with
    | false =>
      have hadd : addC c h = (c, [], 1) := by unfold addC; rw [hhL, hmb]
      rw [hadd]
      (conv => whnf)
      refine AW.pre tokT (fun _ => true) ?_; (conv => whnf)
      refine AW.nils [4] 34 (.row []) _ _ rfl rfl rfl ?_
      refine ev_sound tokT (keep := fun _ => true) ?_
      (conv => whnf)
      (refine Left.of [0, 1, 2, 3, 2, 3, 5] (.tup [.sl 6 0 0 none, .int .i64 1]) [c.varE false 1 4 5, c.mapE false, ⟨32, false, none, .gone⟩, ⟨98, false, none, .gone⟩, c.wayE false, c.orpE false, ⟨34, false, none, .row []⟩] (by rfl) (by rfl) (by rfl) (by (repeat' (first | exact True.intro | exact rfl | refine And.intro ?_ ?_ | (simp [AV.ren, AV.rens, AObj.ren, Ent.ren, AV.inn, AV.inns, AObj.inn, *]; done)))) (by rfl) (by (repeat' (first | exact True.intro | exact rfl | refine And.intro ?_ ?_ | (simp [AV.ren, AV.rens, AObj.ren, Ent.ren, AV.inn, AV.inns, AObj.inn, *]; done)))) ?_)
      exact ⟨rfl, rfl⟩
    | true =>
      refine ev_sound tokT (keep := fun _ => true) ?_
      (conv => whnf)
      (refine Turned.of [0, 1, 2, 3, 4] [(0, .ptr 0 0 0 0), (3, .ptr 4 0 0 0)] [c.varE false 1 2 3, c.mapE false, c.wayE false, c.orpE false, ⟨66, false, none, .var h.segs⟩] (by rfl) (by rfl) (by rfl) (by (repeat' (first | exact True.intro | exact rfl | refine And.intro ?_ ?_ | (simp [AV.ren, AV.rens, AObj.ren, Ent.ren, AV.inn, AV.inns, AObj.inn, *]; done)))) (by (repeat' (first | exact True.intro | exact rfl | refine And.intro ?_ ?_ | (simp [AV.ren, AV.rens, AObj.ren, Ent.ren, AV.inn, AV.inns, AObj.inn, *]; done)))) ?_)
      exact ⟨rfl, rfl, rfl⟩
  rintro fr hp ⟨rfl, rfl, rfl⟩
  have hmay := mayB_true.1 hmb
  have hio := hio hmay
  have hwk : 1 ≤ h.work ∧ h.work ≤ 1099511627776 := by unfold Hdr.may at hmay; omega
  -- its hash
  refine AW.cutT (fun fr hp => fr = [(0, .ptr 0 0 0 0), (3, .ptr 4 0 0 0), (6, .ptr 5 0 0 0)] ∧ hp = [c.varE false 1 2 3, c.mapE false, c.wayE false, c.orpE false, ⟨66, false, none, .var h.segs⟩, ⟨32, false, none, .var [.ints .u8 32 (hidOf h)]⟩]) ?_ ?_
  · unfold Ch.varE Ch.mapE Ch.wayE Ch.orpE
    refine ev_sound tokT (keep := fun _ => true) ?_
    (conv => whnf)
    refine AC.pure (v := .agg [.ints .u8 32 (hidOf h)]) hio (by simp [AV.inns, AV.inn]) (by simp [AV.inn, AV.inns]) ?_
    (conv => whnf)
    (refine Turned.of [0, 1, 2, 3, 4, 5] [(0, .ptr 0 0 0 0), (3, .ptr 4 0 0 0), (6, .ptr 5 0 0 0)] [c.varE false 1 2 3, c.mapE false, c.wayE false, c.orpE false, ⟨66, false, none, .var h.segs⟩, ⟨32, false, none, .var [.ints .u8 32 (hidOf h)]⟩] (by rfl) (by rfl) (by rfl) (by (repeat' (first | exact True.intro | exact rfl | refine And.intro ?_ ?_ | (simp [AV.ren, AV.rens, AObj.ren, Ent.ren, AV.inn, AV.inns, AObj.inn, *]; done)))) (by (repeat' (first | exact True.intro | exact rfl | refine And.intro ?_ ?_ | (simp [AV.ren, AV.rens, AObj.ren, Ent.ren, AV.inn, AV.inns, AObj.inn, *]; done)))) ?_)
    exact ⟨rfl, rfl⟩
  rintro fr hp ⟨rfl, rfl⟩
  obtain ⟨wb, hwb⟩ : ∃ x, waitsB c (hidOf h) = x := ⟨_, rfl⟩
  rw [hwb] at hcn
  obtain ⟨kb, hkb⟩ : ∃ x, (findK (hidOf h) c.known).isSome = x := ⟨_, rfl⟩
  rw [hkb] at hkn
  obtain ⟨pb, hpb⟩ : ∃ x, (findK h.prev c.known).isSome = x := ⟨_, rfl⟩
  rw [hpb] at hkp
  refine AW.cutT (fun fr hp => fr = [(0, .ptr 0 0 0 0), (3, .ptr 4 0 0 0), (6, .ptr 5 0 0 0), (7, .bool wb)] ∧ hp = [c.varE false 1 2 3, c.mapE false, c.wayE false, c.orpE false, ⟨66, false, none, .var h.segs⟩, ⟨32, false, none, .var [.ints .u8 32 (hidOf h)]⟩]) ?_ ?_
  · unfold Ch.varE Ch.mapE Ch.wayE Ch.orpE
    refine ev_sound tokT (keep := fun _ => true) ?_
    (conv => whnf)
    refine AC.frame hcn [0, 1, 2, 3, 5] (by (repeat' (first | exact True.intro | exact rfl | refine And.intro ?_ ?_ | (simp [AV.ren, AV.rens, AObj.ren, Ent.ren, AV.inn, AV.inns, AObj.inn, *]; done)))) (by rfl) (by (repeat' (first | exact True.intro | refine And.intro ?_ ?_ | (simp [AV.ren, AV.rens, AObj.ren, Ent.ren, AV.inn, AV.inns, AObj.inn, *]; done)))) (by rfl) ?_
    rintro r0 hp0 ⟨rfl, rfl⟩
    (conv => whnf)
    (refine Turned.of [0, 1, 2, 3, 4, 5] [(0, .ptr 0 0 0 0), (3, .ptr 4 0 0 0), (6, .ptr 5 0 0 0), (7, .bool wb)] [c.varE false 1 2 3, c.mapE false, c.wayE false, c.orpE false, ⟨66, false, none, .var h.segs⟩, ⟨32, false, none, .var [.ints .u8 32 (hidOf h)]⟩] (by rfl) (by rfl) (by rfl) (by (repeat' (first | exact True.intro | exact rfl | refine And.intro ?_ ?_ | (simp [AV.ren, AV.rens, AObj.ren, Ent.ren, AV.inn, AV.inns, AObj.inn, *]; done)))) (by (repeat' (first | exact True.intro | exact rfl | refine And.intro ?_ ?_ | (simp [AV.ren, AV.rens, AObj.ren, Ent.ren, AV.inn, AV.inns, AObj.inn, *]; done)))) ?_)
    exact ⟨rfl, rfl⟩
  rintro fr hp ⟨rfl, rfl⟩
  obtain ⟨c1, hc1⟩ : ∃ c1, takesC c (hidOf h) h = c1 := ⟨_, rfl⟩
  -- the ways that end here
  refine AW.cutT (fun fr hp => wb = false ∧ kb = false ∧ (∃ p, findK h.prev c.known = some p ∧ deepB c p.height = false) ∧ fr = [(0, .ptr 0 0 0 0)] ∧ hp = [c1.varE false 1 2 3, c1.mapE false, c1.wayE false, c1.orpE false]) ?_ ?_
  · unfold Ch.varE Ch.mapE Ch.wayE Ch.orpE
    refine AW.block ?_
    refine AW.cutT (fun fr hp => fr = [(0, .ptr 0 0 0 0), (3, .ptr 4 0 0 0), (6, .ptr 5 0 0 0), (21, .bool (wb || kb))] ∧ hp = [c.varE false 1 2 3, c.mapE false, c.wayE false, c.orpE false, ⟨66, false, none, .var h.segs⟩, ⟨32, false, none, .var [.ints .u8 32 (hidOf h)]⟩]) ?_ ?_
    · unfold Ch.varE Ch.mapE Ch.wayE Ch.orpE
      refine ev_sound tokT (keep := fun _ => true) ?_
      (conv => whnf)
      cases wb with
      | true =>
        (conv => whnf)
        (refine Turned.of [0, 1, 2, 3, 4, 5] [(0, .ptr 0 0 0 0), (3, .ptr 4 0 0 0), (6, .ptr 5 0 0 0), (21, .bool true)] [c.varE false 1 2 3, c.mapE false, c.wayE false, c.orpE false, ⟨66, false, none, .var h.segs⟩, ⟨32, false, none, .var [.ints .u8 32 (hidOf h)]⟩] (by rfl) (by rfl) (by rfl) (by (repeat' (first | exact True.intro | exact rfl | refine And.intro ?_ ?_ | (simp [AV.ren, AV.rens, AObj.ren, Ent.ren, AV.inn, AV.inns, AObj.inn, *]; done)))) (by (repeat' (first | exact True.intro | exact rfl | refine And.intro ?_ ?_ | (simp [AV.ren, AV.rens, AObj.ren, Ent.ren, AV.inn, AV.inns, AObj.inn, *]; done)))) ?_)
        exact ⟨rfl, rfl⟩
      | false =>
        (conv => whnf)
        refine AC.frame hkn [0, 1, 2, 3] (by (repeat' (first | exact True.intro | exact rfl | refine And.intro ?_ ?_ | (simp [AV.ren, AV.rens, AObj.ren, Ent.ren, AV.inn, AV.inns, AObj.inn, *]; done)))) (by rfl) (by (repeat' (first | exact True.intro | refine And.intro ?_ ?_ | (simp [AV.ren, AV.rens, AObj.ren, Ent.ren, AV.inn, AV.inns, AObj.inn, *]; done)))) (by rfl) ?_
        rintro r0 hp0 ⟨rfl, rfl⟩
        (conv => whnf)
        (refine Turned.of [0, 1, 2, 3, 4, 5] [(0, .ptr 0 0 0 0), (3, .ptr 4 0 0 0), (6, .ptr 5 0 0 0), (21, .bool kb)] [c.varE false 1 2 3, c.mapE false, c.wayE false, c.orpE false, ⟨66, false, none, .var h.segs⟩, ⟨32, false, none, .var [.ints .u8 32 (hidOf h)]⟩] (by rfl) (by rfl) (by rfl) (by (repeat' (first | exact True.intro | exact rfl | refine And.intro ?_ ?_ | (simp [AV.ren, AV.rens, AObj.ren, Ent.ren, AV.inn, AV.inns, AObj.inn, *]; done)))) (by (repeat' (first | exact True.intro | exact rfl | refine And.intro ?_ ?_ | (simp [AV.ren, AV.rens, AObj.ren, Ent.ren, AV.inn, AV.inns, AObj.inn, *]; done)))) ?_)
        exact ⟨rfl, rfl⟩
    rintro fr hp ⟨rfl, rfl⟩
    unfold Ch.varE Ch.mapE Ch.wayE Ch.orpE
    refine AW.condK ?_
    (conv => whnf)
    cases hor : (wb || kb) with
    | true =>
      have hadd : addC c h = (c, [], 6) := by unfold addC; rw [hhL, hmb, hwb, hkb, hor]
      rw [hadd]
      (conv => whnf)
      refine AW.pre tokT (fun _ => true) ?_; (conv => whnf)
      refine AW.nils [4] 34 (.row []) _ _ rfl rfl rfl ?_
      refine ev_sound tokT (keep := fun _ => true) ?_
      (conv => whnf)
      (refine Left.of [0, 1, 2, 3, 2, 3, 6] (.tup [.sl 6 0 0 none, .int .i64 6]) [c.varE false 1 4 5, c.mapE false, ⟨32, false, none, .gone⟩, ⟨98, false, none, .gone⟩, c.wayE false, c.orpE false, ⟨34, false, none, .row []⟩] (by rfl) (by rfl) (by rfl) (by (repeat' (first | exact True.intro | exact rfl | refine And.intro ?_ ?_ | (simp [AV.ren, AV.rens, AObj.ren, Ent.ren, AV.inn, AV.inns, AObj.inn, *]; done)))) (by rfl) (by (repeat' (first | exact True.intro | exact rfl | refine And.intro ?_ ?_ | (simp [AV.ren, AV.rens, AObj.ren, Ent.ren, AV.inn, AV.inns, AObj.inn, *]; done)))) ?_)
      exact ⟨rfl, rfl⟩
    | false =>
      have hw0 : wb = false := by cases wb with | false => rfl | true => cases hor
      have hk0 : kb = false := by cases kb with | false => rfl | true => subst hw0; cases hor
      subst hw0 hk0
      (conv => whnf)
      obtain ⟨fb, hfb⟩ : ∃ x, decide ((c.orphans.length : Int) ≥ c.most) = x := ⟨_, rfl⟩
      refine AW.cutT (fun fr hp => fr = [(0, .ptr 0 0 0 0), (3, .ptr 4 0 0 0), (6, .ptr 5 0 0 0), (28, .bool (!pb && fb))] ∧ hp = [c.varE false 1 2 3, c.mapE false, c.wayE false, c.orpE false, ⟨66, false, none, .var h.segs⟩, ⟨32, false, none, .var [.ints .u8 32 (hidOf h)]⟩]) ?_ ?_
      · refine AW.drawT (.pure 0 (.pure 1 (.pure 2 (.one 3 (.pure 4 (.pure 5 (.pure 6 (.pure 7 (.pure 8 (.pure 9 (.pure 10 (.pure 11 (.pure 12 (.pure 13 (.pure 14 (.pure 15 (.pure 16 (.pure 17 .fin)))))))))))))))))) (keep := fun _ => true) mixed_okC tokT (by kernel_rfl) (by kernel_rfl) ?_
        ((conv => whnf); (repeat (((refine Exists.intro _ (And.intro (by ((conv => whnf); (repeat ((refine And.intro (by exact rfl) ?_); (conv => whnf))))) ?_)); (conv => whnf)))))
        refine AC.frame hkp [0, 1, 2, 3] (by (repeat' (first | exact True.intro | exact rfl | refine And.intro ?_ ?_ | (simp [AV.ren, AV.rens, AObj.ren, Ent.ren, AV.inn, AV.inns, AObj.inn, *]; done)))) (by rfl) (by (repeat' (first | exact True.intro | refine And.intro ?_ ?_ | (simp [AV.ren, AV.rens, AObj.ren, Ent.ren, AV.inn, AV.inns, AObj.inn, *]; done)))) (by rfl) ?_
        rintro r0 hp0 ⟨rfl, rfl⟩
        cases pb with
        | true =>
          ((conv => whnf); (repeat (first | ((with_reducible (refine And.intro (show Go.Aw.againsK _ _ _ _ _ from ?_) ?_)); (focus (repeat' (first | ((with_reducible (show Go.Aw.againsK _ _ _ _ _)); (conv => whnf)) | ((with_reducible (show Go.Aw.againK _ _ _ _ _)); (conv => whnf)) | (with_reducible (exact True.intro)) | (with_reducible (refine And.intro ?_ ?_)) | exact rfl))); (conv => whnf)) | ((refine Exists.intro _ (And.intro (by ((conv => whnf); (repeat ((refine And.intro (by exact rfl) ?_); (conv => whnf))))) ?_)); (conv => whnf)))))
          (refine Turned.of [0, 1, 2, 3, 4, 5] [(0, .ptr 0 0 0 0), (3, .ptr 4 0 0 0), (6, .ptr 5 0 0 0), (28, .bool false)] [c.varE false 1 2 3, c.mapE false, c.wayE false, c.orpE false, ⟨66, false, none, .var h.segs⟩, ⟨32, false, none, .var [.ints .u8 32 (hidOf h)]⟩] (by rfl) (by rfl) (by rfl) (by (repeat' (first | exact True.intro | exact rfl | refine And.intro ?_ ?_ | (simp [AV.ren, AV.rens, AObj.ren, Ent.ren, AV.inn, AV.inns, AObj.inn, *]; done)))) (by (repeat' (first | exact True.intro | exact rfl | refine And.intro ?_ ?_ | (simp [AV.ren, AV.rens, AObj.ren, Ent.ren, AV.inn, AV.inns, AObj.inn, *]; done)))) ?_)
          exact ⟨rfl, rfl⟩
        | false =>
          ((conv => whnf); (repeat (first | ((with_reducible (refine And.intro (show Go.Aw.againsK _ _ _ _ _ from ?_) ?_)); (focus (repeat' (first | ((with_reducible (show Go.Aw.againsK _ _ _ _ _)); (conv => whnf)) | ((with_reducible (show Go.Aw.againK _ _ _ _ _)); (conv => whnf)) | (with_reducible (exact True.intro)) | (with_reducible (refine And.intro ?_ ?_)) | exact rfl))); (conv => whnf)) | ((refine Exists.intro _ (And.intro (by ((conv => whnf); (repeat ((refine And.intro (by exact rfl) ?_); (conv => whnf))))) ?_)); (conv => whnf)))))
          rw [hfb]
          (refine Turned.of [0, 1, 2, 3, 4, 5] [(0, .ptr 0 0 0 0), (3, .ptr 4 0 0 0), (6, .ptr 5 0 0 0), (28, .bool fb)] [c.varE false 1 2 3, c.mapE false, c.wayE false, c.orpE false, ⟨66, false, none, .var h.segs⟩, ⟨32, false, none, .var [.ints .u8 32 (hidOf h)]⟩] (by rfl) (by rfl) (by rfl) (by (repeat' (first | exact True.intro | exact rfl | refine And.intro ?_ ?_ | (simp [AV.ren, AV.rens, AObj.ren, Ent.ren, AV.inn, AV.inns, AObj.inn, *]; done)))) (by (repeat' (first | exact True.intro | exact rfl | refine And.intro ?_ ?_ | (simp [AV.ren, AV.rens, AObj.ren, Ent.ren, AV.inn, AV.inns, AObj.inn, *]; done)))) ?_)
          exact ⟨rfl, rfl⟩
      rintro fr hp ⟨rfl, rfl⟩
      unfold Ch.varE Ch.mapE Ch.wayE Ch.orpE
      refine AW.condK ?_
      (conv => whnf)
      cases hpf : (!pb && fb) with
      | true =>
        have hp0 : findK h.prev c.known = none := by
          cases pb with
          | true => cases hpf
          | false => simpa using hpb
        have hf0 : fb = true := by cases pb with | true => cases hpf | false => exact hpf
        have hadd : addC c h = (c, [], 4) := by unfold addC; rw [hhL, hmb, hwb, hkb, hp0, hfb, hf0]; rfl
        rw [hadd]
        (conv => whnf)
        refine AW.pre tokT (fun _ => true) ?_; (conv => whnf)
        refine AW.nils [4] 34 (.row []) _ _ rfl rfl rfl ?_
        refine ev_sound tokT (keep := fun _ => true) ?_
        (conv => whnf)
        (refine Left.of [0, 1, 2, 3, 2, 3, 6] (.tup [.sl 6 0 0 none, .int .i64 4]) [c.varE false 1 4 5, c.mapE false, ⟨32, false, none, .gone⟩, ⟨98, false, none, .gone⟩, c.wayE false, c.orpE false, ⟨34, false, none, .row []⟩] (by rfl) (by rfl) (by rfl) (by (repeat' (first | exact True.intro | exact rfl | refine And.intro ?_ ?_ | (simp [AV.ren, AV.rens, AObj.ren, Ent.ren, AV.inn, AV.inns, AObj.inn, *]; done)))) (by rfl) (by (repeat' (first | exact True.intro | exact rfl | refine And.intro ?_ ?_ | (simp [AV.ren, AV.rens, AObj.ren, Ent.ren, AV.inn, AV.inns, AObj.inn, *]; done)))) ?_)
        exact ⟨rfl, rfl⟩
      | false =>
        (conv => whnf)
        refine AW.cutT (fun fr hp => fr = [(0, .ptr 0 0 0 0), (3, .ptr 4 0 0 0), (6, .ptr 5 0 0 0), (46, .bool (!pb))] ∧ hp = [c.varE false 1 2 3, c.mapE false, c.wayE false, c.orpE false, ⟨66, false, none, .var h.segs⟩, ⟨32, false, none, .var [.ints .u8 32 (hidOf h)]⟩]) ?_ ?_
        · refine ev_sound tokT (keep := fun _ => true) ?_
          (conv => whnf)
          refine AC.frame hkp [0, 1, 2, 3] (by (repeat' (first | exact True.intro | exact rfl | refine And.intro ?_ ?_ | (simp [AV.ren, AV.rens, AObj.ren, Ent.ren, AV.inn, AV.inns, AObj.inn, *]; done)))) (by rfl) (by (repeat' (first | exact True.intro | refine And.intro ?_ ?_ | (simp [AV.ren, AV.rens, AObj.ren, Ent.ren, AV.inn, AV.inns, AObj.inn, *]; done)))) (by rfl) ?_
          rintro r0 hp0 ⟨rfl, rfl⟩
          (conv => whnf)
          (refine Turned.of [0, 1, 2, 3, 4, 5] [(0, .ptr 0 0 0 0), (3, .ptr 4 0 0 0), (6, .ptr 5 0 0 0), (46, .bool (!pb))] [c.varE false 1 2 3, c.mapE false, c.wayE false, c.orpE false, ⟨66, false, none, .var h.segs⟩, ⟨32, false, none, .var [.ints .u8 32 (hidOf h)]⟩] (by rfl) (by rfl) (by rfl) (by (repeat' (first | exact True.intro | exact rfl | refine And.intro ?_ ?_ | (simp [AV.ren, AV.rens, AObj.ren, Ent.ren, AV.inn, AV.inns, AObj.inn, *]; done)))) (by (repeat' (first | exact True.intro | exact rfl | refine And.intro ?_ ?_ | (simp [AV.ren, AV.rens, AObj.ren, Ent.ren, AV.inn, AV.inns, AObj.inn, *]; done)))) ?_)
          exact ⟨rfl, rfl⟩
        rintro fr hp ⟨rfl, rfl⟩
        unfold Ch.varE Ch.mapE Ch.wayE Ch.orpE
        refine AW.condK ?_
        (conv => whnf)
        cases pb with
        | false =>
          have hp0 : findK h.prev c.known = none := by simpa using hpb
          have hf0 : fb = false := hpf
          have hadd : addC c h = ({ c with orphans := c.orphans ++ [(hidOf h, h)] }, [], 0) := by unfold addC; rw [hhL, hmb, hwb, hkb, hp0, hfb, hf0]; rfl
          rw [hadd]
          (conv => whnf)
          refine AW.seq (AW.drawT (.pure 0 (.pure 1 (.pure 2 (.pure 3 (.pure 4 (.pure 5 (.pure 6 (.pure 7 (.one 8 (.one 9 (.pure 10 (.pure 11 (.one 12 .fin))))))))))))) (keep := fun _ => true) mixed_okC tokT (by kernel_rfl) (by kernel_rfl) ?_)
          have hon := hc.orpn
          ((conv => whnf); (repeat (first | ((with_reducible (refine And.intro (show Go.Aw.againsK _ _ _ _ _ from ?_) ?_)); (focus (repeat' (first | ((with_reducible (show Go.Aw.againsK _ _ _ _ _)); (conv => whnf)) | ((with_reducible (show Go.Aw.againK _ _ _ _ _)); (conv => whnf)) | (with_reducible (exact True.intro)) | (with_reducible (refine And.intro ?_ ?_)) | exact rfl))); (conv => whnf)) | ((refine And.intro (by first | (simp; done) | (simp [roomMost]; omega)) ?_); (conv => whnf)) | ((refine Exists.intro _ (And.intro (by ((conv => whnf); (repeat ((refine And.intro (by exact rfl) ?_); (conv => whnf))))) ?_)); (conv => whnf)))))
          have hro := rowO_snoc c.orphans c.orphans.length (hidOf h) h rfl
          rw [hro]
          refine AW.pre tokT (fun _ => true) ?_; (conv => whnf)
          refine AW.nils [4] 34 (.row []) _ _ rfl rfl rfl ?_
          refine ev_sound tokT (keep := fun _ => true) ?_
          (conv => whnf)
          (refine Left.of [0, 1, 2, 3, 2, 7, 8] (.tup [.sl 6 0 0 none, .int .i64 0]) [⟨7, false, none, .var [.int .i64 c.k, .int .i64 c.most, .mp 1, .sl 4 0 c.way.length none, .sl 5 0 (c.orphans.length + 1) none, .int .i64 c.came, .bool c.halted]⟩, c.mapE false, ⟨32, false, none, .gone⟩, ⟨98, false, none, .gone⟩, c.wayE false, ⟨98, false, none, .row (rowO (c.orphans ++ [(hidOf h, h)]))⟩, ⟨34, false, none, .row []⟩] (by rfl) (by rfl) (by rfl) (by (repeat' (first | exact True.intro | exact rfl | refine And.intro ?_ ?_ | (simp [AV.ren, AV.rens, AObj.ren, Ent.ren, AV.inn, AV.inns, AObj.inn, *]; done)))) (by rfl) (by (repeat' (first | exact True.intro | exact rfl | refine And.intro ?_ ?_ | (simp [AV.ren, AV.rens, AObj.ren, Ent.ren, AV.inn, AV.inns, AObj.inn, *]; done)))) ?_)
          refine ⟨rfl, ?_⟩
          simp [rowE]
        | true =>
          have hp1 := Option.isSome_iff_exists.1 hpb
          obtain ⟨p, hp⟩ := hp1
          have htk := takes_ok c (hidOf h) h (hid_len h) hw hc (by omega)
          have hgp : (findK h.prev c.known).getD zeroK = p := by rw [hp]; rfl
          rw [hgp] at htk
          obtain ⟨db, hdb⟩ : ∃ x, deepB c p.height = x := ⟨_, rfl⟩
          rw [hdb, hc1] at htk
          unfold Ch.varE Ch.mapE Ch.wayE Ch.orpE at htk
          (conv => whnf)
          refine AW.pre tokT (fun _ => true) ?_; (conv => whnf)
          refine AC.frame htk [0, 1, 2, 3] (by (repeat' (first | exact True.intro | exact rfl | refine And.intro ?_ ?_ | (simp [AV.ren, AV.rens, AObj.ren, Ent.ren, AV.inn, AV.inns, AObj.inn, *]; done)))) (by rfl) (by (repeat' (first | exact True.intro | refine And.intro ?_ ?_ | (simp [AV.ren, AV.rens, AObj.ren, Ent.ren, AV.inn, AV.inns, AObj.inn, *]; done)))) (by rfl) ?_
          cases db with
          | true =>
            have hadd : addC c h = (c, [], 8) := by unfold addC; rw [hhL, hmb, hwb, hkb, hp]; simp only []; rw [hdb]; rfl
            rw [hadd]
            rintro r0 hp0 ⟨rfl, rfl⟩
            (conv => whnf)
            refine AW.condK ?_
            (conv => whnf)
            refine AW.pre tokT (fun _ => true) ?_; (conv => whnf)
            refine AW.nils [4] 34 (.row []) _ _ rfl rfl rfl ?_
            refine ev_sound tokT (keep := fun _ => true) ?_
            (conv => whnf)
            (refine Left.of [0, 1, 2, 3, 2, 3, 6] (.tup [.sl 6 0 0 none, .int .i64 8]) [c.varE false 1 4 5, c.mapE false, ⟨32, false, none, .gone⟩, ⟨98, false, none, .gone⟩, c.wayE false, c.orpE false, ⟨34, false, none, .row []⟩] (by rfl) (by rfl) (by rfl) (by (repeat' (first | exact True.intro | exact rfl | refine And.intro ?_ ?_ | (simp [AV.ren, AV.rens, AObj.ren, Ent.ren, AV.inn, AV.inns, AObj.inn, *]; done)))) (by rfl) (by (repeat' (first | exact True.intro | exact rfl | refine And.intro ?_ ?_ | (simp [AV.ren, AV.rens, AObj.ren, Ent.ren, AV.inn, AV.inns, AObj.inn, *]; done)))) ?_)
            exact ⟨rfl, rfl⟩
          | false =>
            rintro r0 hp0 ⟨rfl, rfl⟩
            have hoo : c1.orphans = c.orphans := by rw [← hc1]; rfl
            have hww : c1.way = c.way := by rw [← hc1]; rfl
            (conv => whnf)
            refine ev_sound tokT (keep := fun _ => true) ?_
            (conv => whnf)
            (refine Turned.of [0, 1, 2, 3] [(0, .ptr 0 0 0 0)] [⟨7, false, none, .var [.int .i64 c1.k, .int .i64 c1.most, .mp 1, .sl 2 0 c1.way.length none, .sl 3 0 c1.orphans.length none, .int .i64 c1.came, .bool c1.halted]⟩, c1.mapE false, ⟨32, false, none, .row (rowH c1.way)⟩, ⟨98, false, none, .row (rowO c1.orphans)⟩] (by rfl) (by rfl) (by rfl) (by (repeat' (first | exact True.intro | exact rfl | refine And.intro ?_ ?_ | (simp [AV.ren, AV.rens, AObj.ren, Ent.ren, AV.inn, AV.inns, AObj.inn, *]; done)))) (by (repeat' (first | exact True.intro | exact rfl | refine And.intro ?_ ?_ | (simp [AV.ren, AV.rens, AObj.ren, Ent.ren, AV.inn, AV.inns, AObj.inn, *]; done)))) ?_)
            exact ⟨rfl, rfl, ⟨p, hp, hdb⟩, rfl, rfl⟩
  rintro fr hp ⟨rfl, rfl, ⟨p, hp, hdp⟩, rfl, rfl⟩
  obtain ⟨k1, t1⟩ := takes_inv hc ht hN h hw hwk hwb hkb hp
  rw [hc1] at k1 t1
  obtain ⟨c2, hc2⟩ : ∃ c2, adoptC c1 = c2 := ⟨_, rfl⟩
  obtain ⟨k2, t2, hw12, _⟩ := adoptN_ok c1.orphans.length c1 k1 t1
  rw [show adoptN c1.orphans.length c1 = c2 from hc2] at k2 t2 hw12
  obtain ⟨k3, t3⟩ := moves_inv k2 t2
  have had := adopts_ok c1 k1
  have hmv := moves_ok c2 k2 t2
  have hfg := forgets_ok (movesC c2) k3 t3
  rw [hc2] at had
  have hadd : addC c h = ((match c2.stops with | true => movesC c2 | false => forgetsC (movesC c2)), movesE c2, movesN c2) := by
    unfold addC; rw [hhL, hmb, hwb, hkb, hp]; simp only [Bool.or_false]; rw [hdp, hc1, hc2]; rfl
  have hN1 : movesN c2 = match c2.stops with | true => 9 | false => 0 := rfl
  rw [hadd]
  obtain ⟨c3, hc3⟩ : ∃ c3, movesC c2 = c3 := ⟨_, rfl⟩
  have h23 : c3.orphans = c2.orphans := by rw [← hc3]; unfold movesC; split <;> rfl
  obtain ⟨E, hE⟩ : ∃ E, movesE c2 = E := ⟨_, rfl⟩
  obtain ⟨e, he⟩ : ∃ e, movesN c2 = e := ⟨_, rfl⟩
  obtain ⟨st, hst⟩ : ∃ st, c2.stops = st := ⟨_, rfl⟩
  rw [hc3] at hfg
  rw [hc3, hE, he] at hmv ⊢
  rw [he, hst] at hN1
  rw [hst]
  unfold Ch.varE Ch.mapE Ch.wayE Ch.orpE at had hmv hfg ⊢
  refine AW.cutT (fun fr hp => fr = [(0, .ptr 0 0 0 0)] ∧ hp = [c2.varE false 1 2 3, c2.mapE false, c2.wayE false, c2.orpE false]) ?_ ?_
  · refine ev_sound tokT (keep := fun _ => true) ?_
    (conv => whnf)
    refine AC.frame had [0, 1, 2, 3] (by (repeat' (first | exact True.intro | exact rfl | refine And.intro ?_ ?_ | (simp [AV.ren, AV.rens, AObj.ren, Ent.ren, AV.inn, AV.inns, AObj.inn, *]; done)))) (by rfl) (by (repeat' (first | exact True.intro | refine And.intro ?_ ?_ | (simp [AV.ren, AV.rens, AObj.ren, Ent.ren, AV.inn, AV.inns, AObj.inn, *]; done)))) (by rfl) ?_
    rintro r0 hp0 ⟨rfl, rfl⟩
    (conv => whnf)
    (refine Turned.of [0, 1, 2, 3] [(0, .ptr 0 0 0 0)] [c2.varE false 1 2 3, c2.mapE false, c2.wayE false, c2.orpE false] (by rfl) (by rfl) (by rfl) (by (repeat' (first | exact True.intro | exact rfl | refine And.intro ?_ ?_ | (simp [AV.ren, AV.rens, AObj.ren, Ent.ren, AV.inn, AV.inns, AObj.inn, *]; done)))) (by (repeat' (first | exact True.intro | exact rfl | refine And.intro ?_ ?_ | (simp [AV.ren, AV.rens, AObj.ren, Ent.ren, AV.inn, AV.inns, AObj.inn, *]; done)))) ?_)
    exact ⟨rfl, rfl⟩
  rintro fr hp ⟨rfl, rfl⟩
  obtain ⟨c4, hc4⟩ : ∃ c4, (match st with | true => c3 | false => forgetsC c3) = c4 := ⟨_, rfl⟩
  rw [hc4]
  refine AW.cutT (fun fr hp => fr = [(0, .ptr 0 0 0 0), (4, .sl 5 0 E.length none), (5, .int .i64 e)] ∧ hp = [c4.varE false 1 4 3, c4.mapE false, ⟨32, false, none, .gone⟩, c4.orpE false, c4.wayE false, ⟨34, false, none, .row (rowE E)⟩]) ?_ ?_
  · refine AW.cutT (fun fr hp => fr = [(0, .ptr 0 0 0 0), (4, .sl 5 0 E.length none), (5, .int .i64 e)] ∧ hp = [c3.varE false 1 4 3, c3.mapE false, ⟨32, false, none, .gone⟩, c3.orpE false, c3.wayE false, ⟨34, false, none, .row (rowE E)⟩]) ?_ ?_
    · unfold Ch.varE Ch.mapE Ch.wayE Ch.orpE
      refine ev_sound tokT (keep := fun _ => true) ?_
      (conv => whnf)
      refine AC.frame hmv [0, 1, 2, 3] (by (repeat' (first | exact True.intro | exact rfl | refine And.intro ?_ ?_ | (simp [AV.ren, AV.rens, AObj.ren, Ent.ren, AV.inn, AV.inns, AObj.inn, *]; done)))) (by rfl) (by (repeat' (first | exact True.intro | refine And.intro ?_ ?_ | (simp [AV.ren, AV.rens, AObj.ren, Ent.ren, AV.inn, AV.inns, AObj.inn, *]; done)))) (by rfl) ?_
      rintro r0 hp0 ⟨rfl, rfl⟩
      (conv => whnf)
      (refine Turned.of [0, 1, 2, 3, 4, 5] [(0, .ptr 0 0 0 0), (4, .sl 5 0 E.length none), (5, .int .i64 e)] [c3.varE false 1 4 3, c3.mapE false, ⟨32, false, none, .gone⟩, c3.orpE false, c3.wayE false, ⟨34, false, none, .row (rowE E)⟩] (by rfl) (by rfl) (by rfl) (by (repeat' (first | exact True.intro | exact rfl | refine And.intro ?_ ?_ | (simp [AV.ren, AV.rens, AObj.ren, Ent.ren, AV.inn, AV.inns, AObj.inn, *]; done)))) (by (repeat' (first | exact True.intro | exact rfl | refine And.intro ?_ ?_ | (simp [AV.ren, AV.rens, AObj.ren, Ent.ren, AV.inn, AV.inns, AObj.inn, *]; done)))) ?_)
      exact ⟨rfl, rfl⟩
    rintro fr hp ⟨rfl, rfl⟩
    unfold Ch.varE Ch.mapE Ch.wayE Ch.orpE
    refine AW.pre tokT (fun _ => true) ?_
    cases st with
    | true =>
      subst hN1 hc4
      (conv => whnf)
      refine ev_sound tokT (keep := fun _ => true) ?_
      (conv => whnf)
      (refine Turned.of [0, 1, 2, 3, 4, 5] [(0, .ptr 0 0 0 0), (4, .sl 5 0 E.length none), (5, .int .i64 9)] [c3.varE false 1 4 3, c3.mapE false, ⟨32, false, none, .gone⟩, c3.orpE false, c3.wayE false, ⟨34, false, none, .row (rowE E)⟩] (by rfl) (by rfl) (by rfl) (by (repeat' (first | exact True.intro | exact rfl | refine And.intro ?_ ?_ | (simp [AV.ren, AV.rens, AObj.ren, Ent.ren, AV.inn, AV.inns, AObj.inn, *]; done)))) (by (repeat' (first | exact True.intro | exact rfl | refine And.intro ?_ ?_ | (simp [AV.ren, AV.rens, AObj.ren, Ent.ren, AV.inn, AV.inns, AObj.inn, *]; done)))) ?_)
      exact ⟨rfl, rfl⟩
    | false =>
      simp only [] at hc4
      rw [hc4] at hfg
      subst hN1
      (conv => whnf)
      refine ev_sound tokT (keep := fun _ => true) ?_
      (conv => whnf)
      refine AC.frame hfg [0, 1, 4, 3] (by (repeat' (first | exact True.intro | exact rfl | refine And.intro ?_ ?_ | (simp [AV.ren, AV.rens, AObj.ren, Ent.ren, AV.inn, AV.inns, AObj.inn, *]; done)))) (by rfl) (by (repeat' (first | exact True.intro | refine And.intro ?_ ?_ | (simp [AV.ren, AV.rens, AObj.ren, Ent.ren, AV.inn, AV.inns, AObj.inn, *]; done)))) (by rfl) ?_
      rintro r0 hp0 ⟨rfl, rfl⟩
      (conv => whnf)
      (refine Turned.of [0, 1, 2, 3, 4, 5] [(0, .ptr 0 0 0 0), (4, .sl 5 0 E.length none), (5, .int .i64 0)] [c3.varE false 1 4 3, c4.mapE false, ⟨32, false, none, .gone⟩, c3.orpE false, c3.wayE false, ⟨34, false, none, .row (rowE E)⟩] (by rfl) (by rfl) (by rfl) (by (repeat' (first | exact True.intro | exact rfl | refine And.intro ?_ ?_ | (simp [AV.ren, AV.rens, AObj.ren, Ent.ren, AV.inn, AV.inns, AObj.inn, *]; done)))) (by (repeat' (first | exact True.intro | exact rfl | refine And.intro ?_ ?_ | (simp [AV.ren, AV.rens, AObj.ren, Ent.ren, AV.inn, AV.inns, AObj.inn, *]; done)))) ?_)
      exact ⟨rfl, by subst hc4; rfl⟩
  rintro fr hp ⟨rfl, rfl⟩
  unfold Ch.varE Ch.mapE Ch.wayE Ch.orpE
  refine AW.pre tokT (fun _ => true) ?_; (conv => whnf)
  refine ev_sound tokT (keep := fun _ => true) ?_
  (conv => whnf)
  (refine Left.of [0, 1, 2, 3, 4, 3, 5] (.tup [.sl 6 0 E.length none, .int .i64 e]) [c4.varE false 1 4 5, c4.mapE false, ⟨32, false, none, .gone⟩, ⟨98, false, none, .gone⟩, c4.wayE false, c4.orpE false, ⟨34, false, none, .row (rowE E)⟩] (by rfl) (by rfl) (by rfl) (by (repeat' (first | exact True.intro | exact rfl | refine And.intro ?_ ?_ | (simp [AV.ren, AV.rens, AObj.ren, Ent.ren, AV.inn, AV.inns, AObj.inn, *]; done)))) (by rfl) (by (repeat' (first | exact True.intro | exact rfl | refine And.intro ?_ ?_ | (simp [AV.ren, AV.rens, AObj.ren, Ent.ren, AV.inn, AV.inns, AObj.inn, *]; done)))) ?_)
  exact ⟨rfl, rfl⟩
end Go.Aw
