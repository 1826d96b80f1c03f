/-
  AwCh14: what a chain forgets: the walk. Own work.
-/
import Derived.Test.YtdababcblhbpeaaAwCh13
set_option linter.unusedVariables false
set_option linter.unusedSimpArgs false
set_option maxRecDepth 20000
set_option maxHeartbeats 4000000
open Go.Proofs
namespace Go.Aw

theorem forgets_ok (c : Ch) {N : Nat} (hc : KOk c N) (ht : Tree c) :
    AC Try.prog 96 [.ptr 0 0 0 0] [c.varE true 1 2 3, c.mapE false, c.wayE true, c.orpE true]
      (fun r hp' => r = .tup [] ∧ hp' = [(forgetsC c).varE true 1 2 3, (forgetsC c).mapE false, (forgetsC c).wayE true, (forgetsC c).orpE true]) := by
  refine AC.left (AC.body tokT Try.func96 rfl rfl rfl (by decide) (by rfl) ?_)
  have hon := fun id hid => on_ok c id hid hc
  have hdeep := fun n => deep_ok' c n hc.wayn hc.hk
  have hL : c.known.length ≤ 100001 := by have h1 := ht.size; have h2 := hc.sum; omega
  have hborn : ∀ e ∈ knM c.known, e.1 < c.clock := by
    intro e he
    obtain ⟨x, h1, h2⟩ := knM_mem he
    exact ht.born _ h2
  unfold Ch.varE Ch.mapE Ch.wayE Ch.orpE at hon hdeep
  refine AW.scopeBack 0 (by rfl) (fun n fr hp => ∃ g clk, n = c.known.length - g.length ∧ GOk c g clk (200000 * ((g.length : Int) + 1)) ∧ (∀ e ∈ c.known, onB c e.2.1 = false → deepB c e.2.2.height = true → e.2.1 ∈ gkeys g) ∧
    fr = [(0, .ptr 0 0 0 0), (2, .mp 4)] ∧ hp = [c.varE true 1 2 3, c.mapE false, c.wayE true, c.orpE true, ⟨0, false, none, .map .u8 32 (gnM g) clk⟩]) ?_ ?_
  · rintro n fr hp ⟨g, clk, rfl, hg, hbase, rfl, rfl⟩
    refine AW.postG ?_
    unfold Ch.varE Ch.mapE Ch.wayE Ch.orpE
    have hgl : g.length ≤ 100001 := by have := hg.cnt; omega
    refine AW.pre tokT (fun _ => true) ?_; (conv => whnf)
    refine AW.cutT (fun fr hp => ∃ g' clk', GOk c g' clk' (200000 * ((g.length : Int) + 2)) ∧ (∃ ex, gkeys g' = gkeys g ++ ex) ∧ (∀ e ∈ c.known, onB c e.2.1 = false → e.2.2.prev ∈ gkeys g → e.2.1 ∈ gkeys g') ∧ fr = [(0, .ptr 0 0 0 0), (2, .mp 4), (5, .int .i64 (g.length : Int))] ∧ hp = [c.varE true 1 2 3, c.mapE false, c.wayE true, c.orpE true, ⟨0, false, none, .map .u8 32 (gnM g') clk'⟩]) ?_ ?_
    · refine AW.pre tokT (fun _ => true) ?_; (conv => whnf)
      rw [gnM_length]
      (refine AW.turnL [0, 1, 2, 3, 4, 5] [(0, .ptr 0 0 0 0), (2, .mp 4), (5, .int .i64 (g.length : Int)), (42, .ptr 5 0 0 0)] [c.varE true 1 2 3, c.mapE false, c.wayE true, c.orpE true, ⟨0, false, none, .map .u8 32 (gnM g) clk⟩, ⟨0, false, none, .iter 1 c.clock [] c.clock⟩] (by rfl) (by rfl) (by rfl) (by (repeat' (first | exact True.intro | exact rfl | refine And.intro ?_ ?_ | (simp [AV.ren, AV.rens, AObj.ren, Ent.ren, AV.inn, AV.inns, AObj.inn, *]; done)))) (by (repeat' (first | exact True.intro | exact rfl | refine And.intro ?_ ?_ | (simp [AV.ren, AV.rens, AObj.ren, Ent.ren, AV.inn, AV.inns, AObj.inn, *]; done)))) ?_)
      refine AW.block ?_
      refine AW.loop (fun n fr hp => ∃ g' clk' seen, n = unseen seen c.known ∧ GOk c g' clk' (200000 * ((g.length : Int) + 1) + ((c.known.length : Int) - n)) ∧ (∃ ex, gkeys g' = gkeys g ++ ex) ∧ (∀ e ∈ c.known, e.1 ∈ seen → onB c e.2.1 = false → e.2.2.prev ∈ gkeys g → e.2.1 ∈ gkeys g') ∧ fr = [(0, .ptr 0 0 0 0), (2, .mp 4), (5, .int .i64 (g.length : Int)), (42, .ptr 5 0 0 0)] ∧ hp = [c.varE true 1 2 3, c.mapE false, c.wayE true, c.orpE true, ⟨0, false, none, .map .u8 32 (gnM g') clk'⟩, ⟨0, false, none, .iter 1 c.clock seen c.clock⟩]) (unseen [] c.known) ?_ ?_
      · refine ⟨g, clk, [], rfl, hg.weak ?_, ⟨[], by simp⟩, fun e he hs => absurd hs (by simp), rfl, rfl⟩
        have := List.length_filter_le (fun e : Nat × List Int × KH => !(([] : List Nat).contains e.1)) c.known
        unfold unseen; omega
      · rintro n fr hp ⟨g', clk', seen, rfl, hg', ⟨ex, hex⟩, hdone, rfl, rfl⟩ -
        refine AW.post ?_
        unfold Ch.varE Ch.mapE Ch.wayE Ch.orpE
        refine AW.pre tokT (fun _ => true) ?_
        (conv => whnf)
        refine And.intro ⟨⟨rfl, rfl⟩, hborn⟩ (And.intro (fun e he hs => ?_) (fun hall => ?_))
        · obtain ⟨y, h1, h2⟩ := knM_mem he
          obtain ⟨s, eid, ev⟩ := e
          simp only [Prod.mk.injEq, true_and] at h1
          subst h1
          simp only [] at hs h2
          have hF := findB_knM ht.stamps h2
          (conv => whnf)
          refine AW.pre tokT (fun _ => true) ?_; (conv => whnf)
          refine AW.block ?_
          refine AW.pre tokT (fun _ => true) ?_; ((conv => whnf); (repeat (((refine And.intro (by exact rfl) ?_); (conv => whnf)))))
          rw [hF]
          (conv => whnf)
          (refine AW.turnL [0, 1, 2, 3, 4, 5, 6, 7] [(0, .ptr 0 0 0 0), (2, .mp 4), (5, .int .i64 (g.length : Int)), (42, .ptr 5 0 0 0), (6, .ptr 6 0 0 0), (7, .ptr 7 0 0 0)] [c.varE true 1 2 3, c.mapE false, c.wayE true, c.orpE true, ⟨0, false, none, .map .u8 32 (gnM g') clk'⟩, ⟨0, false, none, .iter 1 c.clock (s :: seen) c.clock⟩, ⟨32, false, none, .var [.ints .u8 32 eid]⟩, ⟨35, false, none, .var y.av.segs⟩] (by rfl) (by rfl) (by rfl) (by (repeat' (first | exact True.intro | exact rfl | refine And.intro ?_ ?_ | (simp [AV.ren, AV.rens, AObj.ren, Ent.ren, AV.inn, AV.inns, AObj.inn, *]; done)))) (by (repeat' (first | exact True.intro | exact rfl | refine And.intro ?_ ?_ | (simp [AV.ren, AV.rens, AObj.ren, Ent.ren, AV.inn, AV.inns, AObj.inn, *]; done)))) ?_)
          have heid : eid.length = 32 := hc.ids _ h2
          have hyp : y.prev.length = 32 := hc.prevs _ h2
          have hyk : findK eid c.known = some y := findK_get ht.keys h2
          have hun := unseen_lt h2 hs
          have hule : unseen seen c.known ≤ c.known.length := List.length_filter_le _ _
          have hone := hon eid heid
          have hgb := goneB_eq ht hc hyk
          obtain ⟨B, hB⟩ : ∃ B, onB c eid = B := ⟨_, rfl⟩
          rw [hB] at hone hgb
          obtain ⟨PB, hPB⟩ : ∃ PB, decide (y.prev ∈ gkeys g') = PB := ⟨_, rfl⟩
          refine AW.cutT (fun fr hp => fr = [(0, .ptr 0 0 0 0), (2, .mp 4), (5, .int .i64 (g.length : Int)), (42, .ptr 5 0 0 0), (6, .ptr 6 0 0 0), (7, .ptr 7 0 0 0), (58, .bool (PB && !B))] ∧ hp = [c.varE true 1 2 3, c.mapE false, c.wayE true, c.orpE true, ⟨0, false, none, .map .u8 32 (gnM g') clk'⟩, ⟨0, false, none, .iter 1 c.clock (s :: seen) c.clock⟩, ⟨32, false, none, .var [.ints .u8 32 eid]⟩, ⟨35, false, none, .var y.av.segs⟩]) ?_ ?_
          · unfold Ch.varE Ch.mapE Ch.wayE Ch.orpE
            refine ev_sound tokT (keep := fun _ => true) ?_; (conv => whnf)
            rcases findM_gnM y.prev g' with ⟨hf, hnk⟩ | ⟨b, v, hf, hbm⟩
            · rw [decide_eq_false hnk] at hPB
              subst hPB
              rw [hf]
              (conv => whnf)
              (refine Turned.of [0, 1, 2, 3, 4, 5, 6, 7] [(0, .ptr 0 0 0 0), (2, .mp 4), (5, .int .i64 (g.length : Int)), (42, .ptr 5 0 0 0), (6, .ptr 6 0 0 0), (7, .ptr 7 0 0 0), (58, .bool false)] [c.varE true 1 2 3, c.mapE false, c.wayE true, c.orpE true, ⟨0, false, none, .map .u8 32 (gnM g') clk'⟩, ⟨0, false, none, .iter 1 c.clock (s :: seen) c.clock⟩, ⟨32, false, none, .var [.ints .u8 32 eid]⟩, ⟨35, false, none, .var y.av.segs⟩] (by rfl) (by rfl) (by rfl) (by (repeat' (first | exact True.intro | exact rfl | refine And.intro ?_ ?_ | (simp [AV.ren, AV.rens, AObj.ren, Ent.ren, AV.inn, AV.inns, AObj.inn, *]; done)))) (by (repeat' (first | exact True.intro | exact rfl | refine And.intro ?_ ?_ | (simp [AV.ren, AV.rens, AObj.ren, Ent.ren, AV.inn, AV.inns, AObj.inn, *]; done)))) ?_)
              exact ⟨rfl, rfl⟩
            · rw [decide_eq_true (show y.prev ∈ gkeys g' from List.mem_map.2 ⟨_, hbm, rfl⟩)] at hPB
              subst hPB
              have hvv := hg'.vals _ hbm
              simp only [] at hvv
              rw [hf]
              (conv => whnf)
              rw [decide_eq_true (show v > 0 by omega)]
              (conv => whnf)
              refine AC.frame hone [0, 1, 2, 3] (by (repeat' (first | exact True.intro | exact rfl | refine And.intro ?_ ?_ | (simp [AV.ren, AV.rens, AObj.ren, Ent.ren, AV.inn, AV.inns, AObj.inn, *]; done)))) (by rfl) (by (repeat' (first | exact True.intro | refine And.intro ?_ ?_ | (simp [AV.ren, AV.rens, AObj.ren, Ent.ren, AV.inn, AV.inns, AObj.inn, *]; done)))) (by rfl) ?_
              rintro r0 hp0 ⟨rfl, rfl⟩
              (conv => whnf)
              (refine Turned.of [0, 1, 2, 3, 4, 5, 6, 7] [(0, .ptr 0 0 0 0), (2, .mp 4), (5, .int .i64 (g.length : Int)), (42, .ptr 5 0 0 0), (6, .ptr 6 0 0 0), (7, .ptr 7 0 0 0), (58, .bool (!B))] [c.varE true 1 2 3, c.mapE false, c.wayE true, c.orpE true, ⟨0, false, none, .map .u8 32 (gnM g') clk'⟩, ⟨0, false, none, .iter 1 c.clock (s :: seen) c.clock⟩, ⟨32, false, none, .var [.ints .u8 32 eid]⟩, ⟨35, false, none, .var y.av.segs⟩] (by rfl) (by rfl) (by rfl) (by (repeat' (first | exact True.intro | exact rfl | refine And.intro ?_ ?_ | (simp [AV.ren, AV.rens, AObj.ren, Ent.ren, AV.inn, AV.inns, AObj.inn, *]; done)))) (by (repeat' (first | exact True.intro | exact rfl | refine And.intro ?_ ?_ | (simp [AV.ren, AV.rens, AObj.ren, Ent.ren, AV.inn, AV.inns, AObj.inn, *]; done)))) ?_)
              exact ⟨by rw [Bool.true_and], rfl⟩
          rintro fr hp ⟨rfl, rfl⟩
          unfold Ch.varE Ch.mapE Ch.wayE Ch.orpE
          refine AW.condK ?_
          (conv => whnf)
          cases hBD : (PB && !B) with
          | false =>
            refine ev_sound tokT (keep := fun _ => true) ?_
            (conv => whnf)
            (refine Turned.of [0, 1, 2, 3, 4, 5] [(0, .ptr 0 0 0 0), (2, .mp 4), (5, .int .i64 (g.length : Int)), (42, .ptr 5 0 0 0)] [c.varE true 1 2 3, c.mapE false, c.wayE true, c.orpE true, ⟨0, false, none, .map .u8 32 (gnM g') clk'⟩, ⟨0, false, none, .iter 1 c.clock (s :: seen) c.clock⟩] (by rfl) (by rfl) (by rfl) (by (repeat' (first | exact True.intro | exact rfl | refine And.intro ?_ ?_ | (simp [AV.ren, AV.rens, AObj.ren, Ent.ren, AV.inn, AV.inns, AObj.inn, *]; done)))) (by (repeat' (first | exact True.intro | exact rfl | refine And.intro ?_ ?_ | (simp [AV.ren, AV.rens, AObj.ren, Ent.ren, AV.inn, AV.inns, AObj.inn, *]; done)))) ?_)
            refine ⟨_, hun, g', clk', s :: seen, rfl, hg'.weak (by omega), ⟨ex, hex⟩, fun e he hse h3 h4 => ?_, rfl, rfl⟩
            rcases List.mem_cons.1 hse with q | q
            · have := findB_one ht.stamps he h2 q
              subst this
              simp only [] at h3 h4
              rw [hB] at h3
              rw [decide_eq_true (show y.prev ∈ gkeys g' by rw [hex]; exact List.mem_append_left _ h4)] at hPB
              rw [h3, ← hPB] at hBD; cases hBD
            · exact hdone e he q h3 h4
          | true =>
            have hpg : y.prev ∈ gkeys g' := by
              cases PB with
              | true => exact of_decide_eq_true hPB
              | false => cases hBD
            have hgone : goneB c eid = true := by
              rw [hgb, (hg'.sound _ hpg).1]
              cases B with
              | true => rw [Bool.and_comm] at hBD; cases hBD
              | false => simp
            (conv => whnf)
            rcases findM_gnM eid g' with ⟨hf, hnk⟩ | ⟨b, v, hf, hbm⟩
            · refine AW.drawT (.pure 0 (.pure 1 (.pure 2 (.pure 3 (.one 4 (.pure 5 (.one 6 .fin))))))) (keep := fun _ => true) mixed_okC tokT (by kernel_rfl) (by kernel_rfl) ?_
              have hf2 := findM_new (k := clk') (z := .int .i64 0) hf
              have hsome : (findB ((clk' : Nat) : Int).toNat (gnM g' ++ [(clk', eid, .int .i64 0)])).isSome = true := by rw [Int.toNat_natCast]; exact findB_new hg'.born
              ((conv => whnf); (repeat (((refine Exists.intro _ (And.intro (by ((conv => whnf); (repeat ((refine And.intro (by exact rfl) ?_); (conv => whnf))))) ?_)); (conv => whnf)))))
              refine Exists.intro (.int .i64 0) (And.intro (by (conv => whnf); rw [hf]; exact ⟨rfl, rfl⟩) ?_)
              ((conv => whnf); (repeat (((refine Exists.intro _ (And.intro (by ((conv => whnf); (repeat ((refine And.intro (by exact rfl) ?_); (conv => whnf))))) ?_)); (conv => whnf)))))
              rw [hf]
              ((conv => whnf); (repeat (first | ((with_reducible (refine And.intro (show Go.Aw.againsK _ _ _ _ _ from ?_) ?_)); (focus (repeat' (first | ((with_reducible (show Go.Aw.againsK _ _ _ _ _)); (conv => whnf)) | ((with_reducible (show Go.Aw.againK _ _ _ _ _)); (conv => whnf)) | (with_reducible (exact True.intro)) | (with_reducible (refine And.intro ?_ ?_)) | exact rfl | (simp [*]; done)))); (conv => whnf)) | ((refine Exists.intro _ (And.intro (by ((conv => whnf); (repeat ((refine And.intro (by exact rfl) ?_); (conv => whnf))))) ?_)); (conv => whnf)) | ((refine And.intro (by (repeat' (first | refine And.intro ?_ ?_ | assumption | omega))) ?_); (conv => whnf)))))
              have hb : bornM ((clk' : Nat) : Int).toNat (.int .i64 (IntKind.i64.wrap (0 + 1))) (gnM g' ++ [(clk', eid, .int .i64 0)]) = gnM (g' ++ [(clk', eid, 1)]) := by
                rw [Int.toNat_natCast, IntWalk.i64_in (0 + 1) (by omega)]; exact bornM_new hg'.born
              rw [hb]
              (refine Turned.of [0, 1, 2, 3, 4, 5] [(0, .ptr 0 0 0 0), (2, .mp 4), (5, .int .i64 (g.length : Int)), (42, .ptr 5 0 0 0)] [c.varE true 1 2 3, c.mapE false, c.wayE true, c.orpE true, ⟨0, false, none, .map .u8 32 (gnM (g' ++ [(clk', eid, 1)])) (clk' + 1)⟩, ⟨0, false, none, .iter 1 c.clock (s :: seen) c.clock⟩] (by rfl) (by rfl) (by rfl) (by (repeat' (first | exact True.intro | exact rfl | refine And.intro ?_ ?_ | (simp [AV.ren, AV.rens, AObj.ren, Ent.ren, AV.inn, AV.inns, AObj.inn, *]; done)))) (by (repeat' (first | exact True.intro | exact rfl | refine And.intro ?_ ?_ | (simp [AV.ren, AV.rens, AObj.ren, Ent.ren, AV.inn, AV.inns, AObj.inn, *]; done)))) ?_)
              have hks : gkeys (g' ++ [(clk', eid, 1)]) = gkeys g' ++ [eid] := by simp [gkeys]
              refine ⟨_, hun, g' ++ [(clk', eid, 1)], clk' + 1, s :: seen, rfl, (hg'.add h2 hnk hgone heid (by omega)).weak (by omega), ⟨ex ++ [eid], by rw [hks, hex, List.append_assoc]⟩, fun e he hse h3 h4 => ?_, rfl, rfl⟩
              rw [hks]
              rcases List.mem_cons.1 hse with q | q
              · rw [findB_one ht.stamps he h2 q]; simp
              · exact List.mem_append_left _ (hdone e he q h3 h4)
            · refine AW.drawT (.pure 0 (.pure 1 (.pure 2 (.pure 3 (.one 4 (.pure 5 (.one 6 .fin))))))) (keep := fun _ => true) mixed_okC tokT (by kernel_rfl) (by kernel_rfl) ?_
              have hvv := hg'.vals _ hbm
              simp only [] at hvv
              have hsome : (findB ((b : Nat) : Int).toNat (gnM g')).isSome = true := by rw [Int.toNat_natCast]; exact findB_gsome ⟨_, hbm, rfl⟩
              ((conv => whnf); (repeat (((refine Exists.intro _ (And.intro (by ((conv => whnf); (repeat ((refine And.intro (by exact rfl) ?_); (conv => whnf))))) ?_)); (conv => whnf)))))
              refine Exists.intro (.int .i64 v) (And.intro (by (conv => whnf); rw [hf]; exact ⟨rfl, rfl⟩) ?_)
              ((conv => whnf); (repeat (((refine Exists.intro _ (And.intro (by ((conv => whnf); (repeat ((refine And.intro (by exact rfl) ?_); (conv => whnf))))) ?_)); (conv => whnf)))))
              rw [hf]
              ((conv => whnf); (repeat (first | ((with_reducible (refine And.intro (show Go.Aw.againsK _ _ _ _ _ from ?_) ?_)); (focus (repeat' (first | ((with_reducible (show Go.Aw.againsK _ _ _ _ _)); (conv => whnf)) | ((with_reducible (show Go.Aw.againK _ _ _ _ _)); (conv => whnf)) | (with_reducible (exact True.intro)) | (with_reducible (refine And.intro ?_ ?_)) | exact rfl | (simp [*]; done)))); (conv => whnf)) | ((refine Exists.intro _ (And.intro (by ((conv => whnf); (repeat ((refine And.intro (by exact rfl) ?_); (conv => whnf))))) ?_)); (conv => whnf)) | ((refine And.intro (by (repeat' (first | refine And.intro ?_ ?_ | assumption | omega))) ?_); (conv => whnf)))))
              have hb : bornM (((b, eid, AV.int .i64 v) : Nat × List Int × AV).fst : Int).toNat (.int .i64 (IntKind.i64.wrap (v + 1))) (gnM g') = gnM (bornG b (v + 1) g') := by
                rw [Int.toNat_natCast, IntWalk.i64_in (v + 1) (by omega)]; exact bornM_gnM _ _ _
              rw [hb]
              (refine Turned.of [0, 1, 2, 3, 4, 5] [(0, .ptr 0 0 0 0), (2, .mp 4), (5, .int .i64 (g.length : Int)), (42, .ptr 5 0 0 0)] [c.varE true 1 2 3, c.mapE false, c.wayE true, c.orpE true, ⟨0, false, none, .map .u8 32 (gnM (bornG b (v + 1) g')) clk'⟩, ⟨0, false, none, .iter 1 c.clock (s :: seen) c.clock⟩] (by rfl) (by rfl) (by rfl) (by (repeat' (first | exact True.intro | exact rfl | refine And.intro ?_ ?_ | (simp [AV.ren, AV.rens, AObj.ren, Ent.ren, AV.inn, AV.inns, AObj.inn, *]; done)))) (by (repeat' (first | exact True.intro | exact rfl | refine And.intro ?_ ?_ | (simp [AV.ren, AV.rens, AObj.ren, Ent.ren, AV.inn, AV.inns, AObj.inn, *]; done)))) ?_)
              have hks := (bornG_keys b (v + 1) g').1
              refine ⟨_, hun, bornG b (v + 1) g', clk', s :: seen, rfl, (hg'.bump hbm).weak (by omega), ⟨ex, by rw [hks]; exact hex⟩, fun e he hse h3 h4 => ?_, rfl, rfl⟩
              rw [hks]
              rcases List.mem_cons.1 hse with q | q
              · rw [findB_one ht.stamps he h2 q]; exact List.mem_map.2 ⟨_, hbm, rfl⟩
              · exact hdone e he q h3 h4
        · (conv => whnf)
          refine AW.pre tokT (fun _ => true) ?_; (conv => whnf)
          (refine Turned.of [0, 1, 2, 3, 4] [(0, .ptr 0 0 0 0), (2, .mp 4), (5, .int .i64 (g.length : Int))] [c.varE true 1 2 3, c.mapE false, c.wayE true, c.orpE true, ⟨0, false, none, .map .u8 32 (gnM g') clk'⟩] (by rfl) (by rfl) (by rfl) (by (repeat' (first | exact True.intro | exact rfl | refine And.intro ?_ ?_ | (simp [AV.ren, AV.rens, AObj.ren, Ent.ren, AV.inn, AV.inns, AObj.inn, *]; done)))) (by (repeat' (first | exact True.intro | exact rfl | refine And.intro ?_ ?_ | (simp [AV.ren, AV.rens, AObj.ren, Ent.ren, AV.inn, AV.inns, AObj.inn, *]; done)))) ?_)
          have hule : unseen seen c.known ≤ c.known.length := List.length_filter_le _ _
          refine ⟨g', clk', hg'.weak (by omega), ⟨ex, hex⟩, fun e he h1 h2 => hdone e he (hall _ (knM_of he)) h1 h2, rfl, rfl⟩
    rintro fr hp ⟨g', clk', hg', ⟨ex, hex⟩, hcl, rfl, rfl⟩
    have hlen : g'.length = g.length + ex.length := by have := congrArg List.length hex; simpa [gkeys] using this
    have hgl' : g'.length ≤ c.known.length := by have := hg'.cnt; omega
    unfold Ch.varE Ch.mapE Ch.wayE Ch.orpE
    rcases Nat.eq_zero_or_pos ex.length with hex0 | hex0
    case inr =>
      refine AW.pre tokT (fun _ => true) ?_; (conv => whnf)
      rw [gnM_length, decide_eq_true (show (g'.length : Int) > (g.length : Int) by omega)]
      (conv => whnf)
      (refine Turned.of [0, 1, 2, 3, 4] [(0, .ptr 0 0 0 0), (2, .mp 4)] [c.varE true 1 2 3, c.mapE false, c.wayE true, c.orpE true, ⟨0, false, none, .map .u8 32 (gnM g') clk'⟩] (by rfl) (by rfl) (by rfl) (by (repeat' (first | exact True.intro | exact rfl | refine And.intro ?_ ?_ | (simp [AV.ren, AV.rens, AObj.ren, Ent.ren, AV.inn, AV.inns, AObj.inn, *]; done)))) (by (repeat' (first | exact True.intro | exact rfl | refine And.intro ?_ ?_ | (simp [AV.ren, AV.rens, AObj.ren, Ent.ren, AV.inn, AV.inns, AObj.inn, *]; done)))) ?_)
      refine ⟨c.known.length - g'.length, by omega, g', clk', rfl, hg'.weak (by omega), fun e he h1 h2 => ?_, rfl, rfl⟩
      rw [hex]; exact List.mem_append_left _ (hbase e he h1 h2)
    have hex1 : ex = [] := List.length_eq_zero_iff.1 hex0
    subst hex1
    rw [List.append_nil] at hex
    refine AW.pre tokT (fun _ => true) ?_; (conv => whnf)
    rw [gnM_length, decide_eq_false (show ¬ (g'.length : Int) > (g.length : Int) by omega)]
    (conv => whnf)
    have hborn' : ∀ e ∈ gnM g', e.1 < clk' := by
      intro e he
      obtain ⟨x, h1, h2⟩ := List.mem_map.1 he
      rw [← h2]; exact hg'.born x h1
    have hall : ∀ id x, findK id c.known = some x → goneB c id = true → id ∈ gkeys g' := fun id x hx hgo =>
      gone_all ht hc (G := gkeys g') (fun e he h1 h2 => by rw [hex]; exact hbase e he h1 h2) (fun e he h1 h2 => hcl e he h1 (by rw [← hex]; exact h2)) x.height.toNat id x hx (Nat.le_refl _) hgo
    refine AW.pre tokT (fun _ => true) ?_; (conv => whnf)
    (refine AW.turnL [0, 1, 2, 3, 4, 5] [(0, .ptr 0 0 0 0), (2, .mp 4), (70, .ptr 5 0 0 0)] [c.varE true 1 2 3, c.mapE false, c.wayE true, c.orpE true, ⟨0, false, none, .map .u8 32 (gnM g') clk'⟩, ⟨0, false, none, .iter 4 clk' [] clk'⟩] (by rfl) (by rfl) (by rfl) (by (repeat' (first | exact True.intro | exact rfl | refine And.intro ?_ ?_ | (simp [AV.ren, AV.rens, AObj.ren, Ent.ren, AV.inn, AV.inns, AObj.inn, *]; done)))) (by (repeat' (first | exact True.intro | exact rfl | refine And.intro ?_ ?_ | (simp [AV.ren, AV.rens, AObj.ren, Ent.ren, AV.inn, AV.inns, AObj.inn, *]; done)))) ?_)
    obtain ⟨G, hG⟩ : ∃ G : List (Nat × List Int × KH), G = g'.map fun e => (e.1, e.2.1, zeroK) := ⟨_, rfl⟩
    refine AW.block ?_
    refine AW.loop (fun n fr hp => ∃ (seen : List Nat) (D : List (List Int)), n = unseen seen G ∧ (∀ e ∈ g', e.1 ∈ seen → e.2.1 ∈ D) ∧ (∀ d ∈ D, d ∈ gkeys g') ∧ fr = [(0, .ptr 0 0 0 0), (2, .mp 4), (70, .ptr 5 0 0 0)] ∧
      hp = [c.varE true 1 2 3, ⟨0, false, none, .map .u8 32 (knM (c.known.filter fun e => !(D.contains e.2.1))) c.clock⟩, c.wayE true, c.orpE true, ⟨0, false, none, .map .u8 32 (gnM g') clk'⟩, ⟨0, false, none, .iter 4 clk' seen clk'⟩]) (unseen [] G) ?_ ?_
    · refine ⟨[], [], rfl, fun e he hs => absurd hs (by simp), fun d hd => absurd hd (by simp), rfl, ?_⟩
      have : (c.known.filter fun e => !(([] : List (List Int)).contains e.2.1)) = c.known := by rw [List.filter_eq_self]; intro a _; rfl
      rw [this]; rfl
    · rintro n fr hp ⟨seen, D, rfl, hD1, hD2, rfl, rfl⟩ -
      refine AW.post ?_
      unfold Ch.varE Ch.wayE Ch.orpE
      refine AW.pre tokT (fun _ => true) ?_
      (conv => whnf)
      refine And.intro ⟨⟨rfl, rfl⟩, hborn'⟩ (And.intro (fun e he hs => ?_) (fun hall2 => ?_))
      · obtain ⟨⟨s, eid, v⟩, h2, h1⟩ := List.mem_map.1 he
        subst h1
        simp only [] at hs
        have hF := findB_gnM hg'.stamps h2
        have heid : eid.length = 32 := (hg'.sound eid (List.mem_map.2 ⟨_, h2, rfl⟩)).2
        have hun : unseen (s :: seen) G < unseen seen G := unseen_lt (e := (s, eid, zeroK)) (by rw [hG]; exact List.mem_map.2 ⟨_, h2, rfl⟩) hs
        (conv => whnf)
        refine AW.pre tokT (fun _ => true) ?_; (conv => whnf)
        refine AW.block ?_
        refine AW.pre tokT (fun _ => true) ?_; ((conv => whnf); (repeat (((refine And.intro (by exact rfl) ?_); (conv => whnf)))))
        rw [hF]
        (conv => whnf)
        refine AW.drawT (.pure 0 (.pure 1 (.pure 2 (.pure 3 (.pure 4 (.one 5 .fin)))))) (keep := fun _ => true) mixed_okC tokT (by kernel_rfl) (by kernel_rfl) ?_
        ((conv => whnf); (repeat (first | ((with_reducible (refine And.intro (show Go.Aw.againsK _ _ _ _ _ from ?_) ?_)); (focus (repeat' (first | ((with_reducible (show Go.Aw.againsK _ _ _ _ _)); (conv => whnf)) | ((with_reducible (show Go.Aw.againK _ _ _ _ _)); (conv => whnf)) | (with_reducible (exact True.intro)) | (with_reducible (refine And.intro ?_ ?_)) | exact rfl))); (conv => whnf)) | ((refine Exists.intro _ (And.intro (by ((conv => whnf); (repeat ((refine And.intro (by exact rfl) ?_); (conv => whnf))))) ?_)); (conv => whnf)))))
        have hnd : ((c.known.filter fun e => !(D.contains e.2.1)).map (·.2.1)).Nodup := (List.filter_sublist.map _).nodup ht.keys
        have hdel : delM eid (knM (c.known.filter fun e => !(D.contains e.2.1))) = knM (c.known.filter fun e => !((eid :: D).contains e.2.1)) := by
          rw [delM_knM hnd, List.filter_filter]
          congr 1
          apply List.filter_congr
          intro x _
          rw [List.contains_cons]
          cases (x.2.1 == eid) <;> simp
        rw [hdel]
        (refine Turned.of [0, 1, 2, 3, 4, 5] [(0, .ptr 0 0 0 0), (2, .mp 4), (70, .ptr 5 0 0 0)] [c.varE true 1 2 3, ⟨0, false, none, .map .u8 32 (knM (c.known.filter fun e => !((eid :: D).contains e.2.1))) c.clock⟩, c.wayE true, c.orpE true, ⟨0, false, none, .map .u8 32 (gnM g') clk'⟩, ⟨0, false, none, .iter 4 clk' (s :: seen) clk'⟩] (by rfl) (by rfl) (by rfl) (by (repeat' (first | exact True.intro | exact rfl | refine And.intro ?_ ?_ | (simp [AV.ren, AV.rens, AObj.ren, Ent.ren, AV.inn, AV.inns, AObj.inn, *]; done)))) (by (repeat' (first | exact True.intro | exact rfl | refine And.intro ?_ ?_ | (simp [AV.ren, AV.rens, AObj.ren, Ent.ren, AV.inn, AV.inns, AObj.inn, *]; done)))) ?_)
        refine ⟨_, hun, s :: seen, eid :: D, rfl, fun e he hse => ?_, fun d hd => ?_, rfl, rfl⟩
        · rcases List.mem_cons.1 hse with q | q
          · have hee : e.2.1 = eid := by
              have m1 : (e.1, e.2.1, zeroK) ∈ G := by rw [hG]; exact List.mem_map.2 ⟨_, he, rfl⟩
              have m2 : (s, eid, zeroK) ∈ G := by rw [hG]; exact List.mem_map.2 ⟨_, h2, rfl⟩
              have hst : (G.map (·.1)).Nodup := by rw [hG, List.map_map]; exact hg'.stamps
              have := findB_one hst m1 m2 q
              exact congrArg (fun z => z.2.1) this
            rw [hee]; exact .head _
          · exact .tail _ (hD1 e he q)
        · rcases List.mem_cons.1 hd with q | q
          · subst q; exact List.mem_map.2 ⟨_, h2, rfl⟩
          · exact hD2 d q
      · (conv => whnf)
        refine ev_sound tokT (keep := fun _ => true) ?_
        (conv => whnf)
        have hfin : (c.known.filter fun e => !(D.contains e.2.1)) = (forgetsC c).known := by
          unfold forgetsC
          apply List.filter_congr
          intro e he
          have hk := findK_get ht.keys (show (e.1, e.2.1, e.2.2) ∈ c.known from he)
          congr 1
          rw [Bool.eq_iff_iff, List.contains_iff_mem]
          constructor
          · intro hd
            exact (hg'.sound _ (hD2 _ hd)).1
          · intro hgo
            obtain ⟨x, hx, hxe⟩ := List.mem_map.1 (hall _ _ hk hgo)
            rw [← hxe]
            exact hD1 x hx (hall2 _ (List.mem_map.2 ⟨x, hx, rfl⟩))
        rw [hfin]
        (refine Left.of [0, 1, 2, 3] (.tup []) [c.varE true 1 2 3, ⟨0, false, none, .map .u8 32 (knM (forgetsC c).known) c.clock⟩, c.wayE true, c.orpE true] (by rfl) (by rfl) (by rfl) (by (repeat' (first | exact True.intro | exact rfl | refine And.intro ?_ ?_ | (simp [AV.ren, AV.rens, AObj.ren, Ent.ren, AV.inn, AV.inns, AObj.inn, *]; done)))) (by rfl) (by (repeat' (first | exact True.intro | exact rfl | refine And.intro ?_ ?_ | (simp [AV.ren, AV.rens, AObj.ren, Ent.ren, AV.inn, AV.inns, AObj.inn, *]; done)))) ?_)
        exact ⟨rfl, rfl⟩
  · intro hr
    refine AW.cutT (fun fr hp => fr = [(0, .ptr 0 0 0 0), (2, .mp 4)] ∧ hp = [c.varE true 1 2 3, c.mapE false, c.wayE true, c.orpE true, ⟨0, false, none, .map .u8 32 (gnM []) 0⟩]) ?_ ?_
    · unfold Ch.varE Ch.mapE Ch.wayE Ch.orpE
      refine ev_sound tokT (keep := fun _ => true) ?_
      (conv => whnf)
      (refine Turned.of [0, 1, 2, 3, 4] [(0, .ptr 0 0 0 0), (2, .mp 4)] [c.varE true 1 2 3, c.mapE false, c.wayE true, c.orpE true, ⟨0, false, none, .map .u8 32 (gnM []) 0⟩] (by rfl) (by rfl) (by rfl) (by (repeat' (first | exact True.intro | exact rfl | refine And.intro ?_ ?_ | (simp [AV.ren, AV.rens, AObj.ren, Ent.ren, AV.inn, AV.inns, AObj.inn, *]; done)))) (by (repeat' (first | exact True.intro | exact rfl | refine And.intro ?_ ?_ | (simp [AV.ren, AV.rens, AObj.ren, Ent.ren, AV.inn, AV.inns, AObj.inn, *]; done)))) ?_)
      exact ⟨rfl, rfl⟩
    rintro fr hp ⟨rfl, rfl⟩
    refine AW.cutT (fun fr hp => ∃ g clk, GOk c g clk (200000 * ((g.length : Int) + 1)) ∧ (∀ e ∈ c.known, onB c e.2.1 = false → deepB c e.2.2.height = true → e.2.1 ∈ gkeys g) ∧
      fr = [(0, .ptr 0 0 0 0), (2, .mp 4)] ∧ hp = [c.varE true 1 2 3, c.mapE false, c.wayE true, c.orpE true, ⟨0, false, none, .map .u8 32 (gnM g) clk⟩]) ?_ ?_
    · unfold Ch.varE Ch.mapE Ch.wayE Ch.orpE
      refine AW.pre tokT (fun _ => true) ?_; (conv => whnf)
      (refine AW.turnL [0, 1, 2, 3, 4, 5] [(0, .ptr 0 0 0 0), (2, .mp 4), (14, .ptr 5 0 0 0)] [c.varE true 1 2 3, c.mapE false, c.wayE true, c.orpE true, ⟨0, false, none, .map .u8 32 (gnM []) 0⟩, ⟨0, false, none, .iter 1 c.clock [] c.clock⟩] (by rfl) (by rfl) (by rfl) (by (repeat' (first | exact True.intro | exact rfl | refine And.intro ?_ ?_ | (simp [AV.ren, AV.rens, AObj.ren, Ent.ren, AV.inn, AV.inns, AObj.inn, *]; done)))) (by (repeat' (first | exact True.intro | exact rfl | refine And.intro ?_ ?_ | (simp [AV.ren, AV.rens, AObj.ren, Ent.ren, AV.inn, AV.inns, AObj.inn, *]; done)))) ?_)
      refine AW.block ?_
      refine AW.loop (fun n fr hp => ∃ g clk seen, n = unseen seen c.known ∧ GOk c g clk ((c.known.length : Int) - n) ∧ (∀ e ∈ c.known, e.1 ∈ seen → onB c e.2.1 = false → deepB c e.2.2.height = true → e.2.1 ∈ gkeys g) ∧
        fr = [(0, .ptr 0 0 0 0), (2, .mp 4), (14, .ptr 5 0 0 0)] ∧ hp = [c.varE true 1 2 3, c.mapE false, c.wayE true, c.orpE true, ⟨0, false, none, .map .u8 32 (gnM g) clk⟩, ⟨0, false, none, .iter 1 c.clock seen c.clock⟩]) (unseen [] c.known) ?_ ?_
      · refine ⟨[], 0, [], rfl, (GOk.nil c).weak ?_, fun e he hs => absurd hs (by simp), rfl, rfl⟩
        have := List.length_filter_le (fun e : Nat × List Int × KH => !(([] : List Nat).contains e.1)) c.known
        unfold unseen; omega
      · rintro n fr hp ⟨g, clk, seen, rfl, hg, hdone, rfl, rfl⟩ -
        refine AW.post ?_
        unfold Ch.varE Ch.mapE Ch.wayE Ch.orpE
        refine AW.pre tokT (fun _ => true) ?_
        (conv => whnf)
        refine And.intro ⟨⟨rfl, rfl⟩, hborn⟩ (And.intro (fun e he hs => ?_) (fun hall => ?_))
        · obtain ⟨y, h1, h2⟩ := knM_mem he
          obtain ⟨s, eid, ev⟩ := e
          simp only [Prod.mk.injEq, true_and] at h1
          subst h1
          simp only [] at hs h2
          have hF := findB_knM ht.stamps h2
          (conv => whnf)
          refine AW.pre tokT (fun _ => true) ?_; (conv => whnf)
          refine AW.block ?_
          refine AW.pre tokT (fun _ => true) ?_; ((conv => whnf); (repeat (((refine And.intro (by exact rfl) ?_); (conv => whnf)))))
          rw [hF]
          (conv => whnf)
          (refine AW.turnL [0, 1, 2, 3, 4, 5, 6, 7] [(0, .ptr 0 0 0 0), (2, .mp 4), (14, .ptr 5 0 0 0), (3, .ptr 6 0 0 0), (4, .ptr 7 0 0 0)] [c.varE true 1 2 3, c.mapE false, c.wayE true, c.orpE true, ⟨0, false, none, .map .u8 32 (gnM g) clk⟩, ⟨0, false, none, .iter 1 c.clock (s :: seen) c.clock⟩, ⟨32, false, none, .var [.ints .u8 32 eid]⟩, ⟨35, false, none, .var y.av.segs⟩] (by rfl) (by rfl) (by rfl) (by (repeat' (first | exact True.intro | exact rfl | refine And.intro ?_ ?_ | (simp [AV.ren, AV.rens, AObj.ren, Ent.ren, AV.inn, AV.inns, AObj.inn, *]; done)))) (by (repeat' (first | exact True.intro | exact rfl | refine And.intro ?_ ?_ | (simp [AV.ren, AV.rens, AObj.ren, Ent.ren, AV.inn, AV.inns, AObj.inn, *]; done)))) ?_)
          have heid : eid.length = 32 := hc.ids _ h2
          have hyk : findK eid c.known = some y := findK_get ht.keys h2
          have hun := unseen_lt h2 hs
          have hule : unseen seen c.known ≤ c.known.length := List.length_filter_le _ _
          have hone := hon eid heid
          have hdpe := hdeep y.height
          have hgb := goneB_eq ht hc hyk
          obtain ⟨B, hB⟩ : ∃ B, onB c eid = B := ⟨_, rfl⟩
          obtain ⟨DB, hDB⟩ : ∃ DB, deepB c y.height = DB := ⟨_, rfl⟩
          rw [hB] at hone hgb
          rw [hDB] at hdpe hgb
          refine AW.cutT (fun fr hp => fr = [(0, .ptr 0 0 0 0), (2, .mp 4), (14, .ptr 5 0 0 0), (3, .ptr 6 0 0 0), (4, .ptr 7 0 0 0), (29, .bool (!B && DB))] ∧ hp = [c.varE true 1 2 3, c.mapE false, c.wayE true, c.orpE true, ⟨0, false, none, .map .u8 32 (gnM g) clk⟩, ⟨0, false, none, .iter 1 c.clock (s :: seen) c.clock⟩, ⟨32, false, none, .var [.ints .u8 32 eid]⟩, ⟨35, false, none, .var y.av.segs⟩]) ?_ ?_
          · unfold Ch.varE Ch.mapE Ch.wayE Ch.orpE
            refine ev_sound tokT (keep := fun _ => true) ?_; (conv => whnf)
            refine AC.frame hone [0, 1, 2, 3] (by (repeat' (first | exact True.intro | exact rfl | refine And.intro ?_ ?_ | (simp [AV.ren, AV.rens, AObj.ren, Ent.ren, AV.inn, AV.inns, AObj.inn, *]; done)))) (by rfl) (by (repeat' (first | exact True.intro | refine And.intro ?_ ?_ | (simp [AV.ren, AV.rens, AObj.ren, Ent.ren, AV.inn, AV.inns, AObj.inn, *]; done)))) (by rfl) ?_
            rintro r0 hp0 ⟨rfl, rfl⟩
            cases B with
            | true =>
              (conv => whnf)
              (refine Turned.of [0, 1, 2, 3, 4, 5, 6, 7] [(0, .ptr 0 0 0 0), (2, .mp 4), (14, .ptr 5 0 0 0), (3, .ptr 6 0 0 0), (4, .ptr 7 0 0 0), (29, .bool false)] [c.varE true 1 2 3, c.mapE false, c.wayE true, c.orpE true, ⟨0, false, none, .map .u8 32 (gnM g) clk⟩, ⟨0, false, none, .iter 1 c.clock (s :: seen) c.clock⟩, ⟨32, false, none, .var [.ints .u8 32 eid]⟩, ⟨35, false, none, .var y.av.segs⟩] (by rfl) (by rfl) (by rfl) (by (repeat' (first | exact True.intro | exact rfl | refine And.intro ?_ ?_ | (simp [AV.ren, AV.rens, AObj.ren, Ent.ren, AV.inn, AV.inns, AObj.inn, *]; done)))) (by (repeat' (first | exact True.intro | exact rfl | refine And.intro ?_ ?_ | (simp [AV.ren, AV.rens, AObj.ren, Ent.ren, AV.inn, AV.inns, AObj.inn, *]; done)))) ?_)
              exact ⟨rfl, rfl⟩
            | false =>
              (conv => whnf)
              refine AC.frame hdpe [0, 1, 2, 3] (by (repeat' (first | exact True.intro | exact rfl | refine And.intro ?_ ?_ | (simp [AV.ren, AV.rens, AObj.ren, Ent.ren, AV.inn, AV.inns, AObj.inn, *]; done)))) (by rfl) (by (repeat' (first | exact True.intro | refine And.intro ?_ ?_ | (simp [AV.ren, AV.rens, AObj.ren, Ent.ren, AV.inn, AV.inns, AObj.inn, *]; done)))) (by rfl) ?_
              rintro r0 hp0 ⟨rfl, rfl⟩
              (conv => whnf)
              (refine Turned.of [0, 1, 2, 3, 4, 5, 6, 7] [(0, .ptr 0 0 0 0), (2, .mp 4), (14, .ptr 5 0 0 0), (3, .ptr 6 0 0 0), (4, .ptr 7 0 0 0), (29, .bool DB)] [c.varE true 1 2 3, c.mapE false, c.wayE true, c.orpE true, ⟨0, false, none, .map .u8 32 (gnM g) clk⟩, ⟨0, false, none, .iter 1 c.clock (s :: seen) c.clock⟩, ⟨32, false, none, .var [.ints .u8 32 eid]⟩, ⟨35, false, none, .var y.av.segs⟩] (by rfl) (by rfl) (by rfl) (by (repeat' (first | exact True.intro | exact rfl | refine And.intro ?_ ?_ | (simp [AV.ren, AV.rens, AObj.ren, Ent.ren, AV.inn, AV.inns, AObj.inn, *]; done)))) (by (repeat' (first | exact True.intro | exact rfl | refine And.intro ?_ ?_ | (simp [AV.ren, AV.rens, AObj.ren, Ent.ren, AV.inn, AV.inns, AObj.inn, *]; done)))) ?_)
              exact ⟨rfl, rfl⟩
          rintro fr hp ⟨rfl, rfl⟩
          unfold Ch.varE Ch.mapE Ch.wayE Ch.orpE
          refine AW.condK ?_
          (conv => whnf)
          cases hBD : (!B && DB) with
          | false =>
            refine ev_sound tokT (keep := fun _ => true) ?_
            (conv => whnf)
            (refine Turned.of [0, 1, 2, 3, 4, 5] [(0, .ptr 0 0 0 0), (2, .mp 4), (14, .ptr 5 0 0 0)] [c.varE true 1 2 3, c.mapE false, c.wayE true, c.orpE true, ⟨0, false, none, .map .u8 32 (gnM g) clk⟩, ⟨0, false, none, .iter 1 c.clock (s :: seen) c.clock⟩] (by rfl) (by rfl) (by rfl) (by (repeat' (first | exact True.intro | exact rfl | refine And.intro ?_ ?_ | (simp [AV.ren, AV.rens, AObj.ren, Ent.ren, AV.inn, AV.inns, AObj.inn, *]; done)))) (by (repeat' (first | exact True.intro | exact rfl | refine And.intro ?_ ?_ | (simp [AV.ren, AV.rens, AObj.ren, Ent.ren, AV.inn, AV.inns, AObj.inn, *]; done)))) ?_)
            refine ⟨_, hun, g, clk, s :: seen, rfl, hg.weak (by omega), fun e he hse h3 h4 => ?_, rfl, rfl⟩
            rcases List.mem_cons.1 hse with q | q
            · have := findB_one ht.stamps he h2 q
              subst this
              simp only [] at h3 h4
              rw [hB] at h3; rw [hDB] at h4
              rw [h3, h4] at hBD; cases hBD
            · exact hdone e he q h3 h4
          | true =>
            have hgone : goneB c eid = true := by
              rw [hgb]
              cases B <;> cases DB <;> first | rfl | cases hBD
            (conv => whnf)
            rcases findM_gnM eid g with ⟨hf, hnk⟩ | ⟨b, v, hf, hbm⟩
            · refine AW.drawT (.pure 0 (.pure 1 (.pure 2 (.pure 3 (.one 4 (.pure 5 (.one 6 .fin))))))) (keep := fun _ => true) mixed_okC tokT (by kernel_rfl) (by kernel_rfl) ?_
              have hf2 := findM_new (k := clk) (z := .int .i64 0) hf
              have hsome : (findB ((clk : Nat) : Int).toNat (gnM g ++ [(clk, eid, .int .i64 0)])).isSome = true := by rw [Int.toNat_natCast]; exact findB_new hg.born
              ((conv => whnf); (repeat (((refine Exists.intro _ (And.intro (by ((conv => whnf); (repeat ((refine And.intro (by exact rfl) ?_); (conv => whnf))))) ?_)); (conv => whnf)))))
              refine Exists.intro (.int .i64 0) (And.intro (by (conv => whnf); rw [hf]; exact ⟨rfl, rfl⟩) ?_)
              ((conv => whnf); (repeat (((refine Exists.intro _ (And.intro (by ((conv => whnf); (repeat ((refine And.intro (by exact rfl) ?_); (conv => whnf))))) ?_)); (conv => whnf)))))
              rw [hf]
              ((conv => whnf); (repeat (first | ((with_reducible (refine And.intro (show Go.Aw.againsK _ _ _ _ _ from ?_) ?_)); (focus (repeat' (first | ((with_reducible (show Go.Aw.againsK _ _ _ _ _)); (conv => whnf)) | ((with_reducible (show Go.Aw.againK _ _ _ _ _)); (conv => whnf)) | (with_reducible (exact True.intro)) | (with_reducible (refine And.intro ?_ ?_)) | exact rfl | (simp [*]; done)))); (conv => whnf)) | ((refine Exists.intro _ (And.intro (by ((conv => whnf); (repeat ((refine And.intro (by exact rfl) ?_); (conv => whnf))))) ?_)); (conv => whnf)) | ((refine And.intro (by (repeat' (first | refine And.intro ?_ ?_ | assumption | omega))) ?_); (conv => whnf)))))
              have hb : bornM ((clk : Nat) : Int).toNat (.int .i64 (IntKind.i64.wrap (0 + 1))) (gnM g ++ [(clk, eid, .int .i64 0)]) = gnM (g ++ [(clk, eid, 1)]) := by
                rw [Int.toNat_natCast, IntWalk.i64_in (0 + 1) (by omega)]; exact bornM_new hg.born
              rw [hb]
              (refine Turned.of [0, 1, 2, 3, 4, 5] [(0, .ptr 0 0 0 0), (2, .mp 4), (14, .ptr 5 0 0 0)] [c.varE true 1 2 3, c.mapE false, c.wayE true, c.orpE true, ⟨0, false, none, .map .u8 32 (gnM (g ++ [(clk, eid, 1)])) (clk + 1)⟩, ⟨0, false, none, .iter 1 c.clock (s :: seen) c.clock⟩] (by rfl) (by rfl) (by rfl) (by (repeat' (first | exact True.intro | exact rfl | refine And.intro ?_ ?_ | (simp [AV.ren, AV.rens, AObj.ren, Ent.ren, AV.inn, AV.inns, AObj.inn, *]; done)))) (by (repeat' (first | exact True.intro | exact rfl | refine And.intro ?_ ?_ | (simp [AV.ren, AV.rens, AObj.ren, Ent.ren, AV.inn, AV.inns, AObj.inn, *]; done)))) ?_)
              refine ⟨_, hun, g ++ [(clk, eid, 1)], clk + 1, s :: seen, rfl, (hg.add h2 hnk hgone heid (by omega)).weak (by omega), fun e he hse h3 h4 => ?_, rfl, rfl⟩
              rw [show gkeys (g ++ [(clk, eid, 1)]) = gkeys g ++ [eid] by simp [gkeys]]
              rcases List.mem_cons.1 hse with q | q
              · rw [findB_one ht.stamps he h2 q]; simp
              · exact List.mem_append_left _ (hdone e he q h3 h4)
            · refine AW.drawT (.pure 0 (.pure 1 (.pure 2 (.pure 3 (.one 4 (.pure 5 (.one 6 .fin))))))) (keep := fun _ => true) mixed_okC tokT (by kernel_rfl) (by kernel_rfl) ?_
              have hvv := hg.vals _ hbm
              simp only [] at hvv
              have hsome : (findB ((b : Nat) : Int).toNat (gnM g)).isSome = true := by rw [Int.toNat_natCast]; exact findB_gsome ⟨_, hbm, rfl⟩
              ((conv => whnf); (repeat (((refine Exists.intro _ (And.intro (by ((conv => whnf); (repeat ((refine And.intro (by exact rfl) ?_); (conv => whnf))))) ?_)); (conv => whnf)))))
              refine Exists.intro (.int .i64 v) (And.intro (by (conv => whnf); rw [hf]; exact ⟨rfl, rfl⟩) ?_)
              ((conv => whnf); (repeat (((refine Exists.intro _ (And.intro (by ((conv => whnf); (repeat ((refine And.intro (by exact rfl) ?_); (conv => whnf))))) ?_)); (conv => whnf)))))
              rw [hf]
              ((conv => whnf); (repeat (first | ((with_reducible (refine And.intro (show Go.Aw.againsK _ _ _ _ _ from ?_) ?_)); (focus (repeat' (first | ((with_reducible (show Go.Aw.againsK _ _ _ _ _)); (conv => whnf)) | ((with_reducible (show Go.Aw.againK _ _ _ _ _)); (conv => whnf)) | (with_reducible (exact True.intro)) | (with_reducible (refine And.intro ?_ ?_)) | exact rfl | (simp [*]; done)))); (conv => whnf)) | ((refine Exists.intro _ (And.intro (by ((conv => whnf); (repeat ((refine And.intro (by exact rfl) ?_); (conv => whnf))))) ?_)); (conv => whnf)) | ((refine And.intro (by (repeat' (first | refine And.intro ?_ ?_ | assumption | omega))) ?_); (conv => whnf)))))
              have hb : bornM (((b, eid, AV.int .i64 v) : Nat × List Int × AV).fst : Int).toNat (.int .i64 (IntKind.i64.wrap (v + 1))) (gnM g) = gnM (bornG b (v + 1) g) := by
                rw [Int.toNat_natCast, IntWalk.i64_in (v + 1) (by omega)]; exact bornM_gnM _ _ _
              rw [hb]
              (refine Turned.of [0, 1, 2, 3, 4, 5] [(0, .ptr 0 0 0 0), (2, .mp 4), (14, .ptr 5 0 0 0)] [c.varE true 1 2 3, c.mapE false, c.wayE true, c.orpE true, ⟨0, false, none, .map .u8 32 (gnM (bornG b (v + 1) g)) clk⟩, ⟨0, false, none, .iter 1 c.clock (s :: seen) c.clock⟩] (by rfl) (by rfl) (by rfl) (by (repeat' (first | exact True.intro | exact rfl | refine And.intro ?_ ?_ | (simp [AV.ren, AV.rens, AObj.ren, Ent.ren, AV.inn, AV.inns, AObj.inn, *]; done)))) (by (repeat' (first | exact True.intro | exact rfl | refine And.intro ?_ ?_ | (simp [AV.ren, AV.rens, AObj.ren, Ent.ren, AV.inn, AV.inns, AObj.inn, *]; done)))) ?_)
              refine ⟨_, hun, bornG b (v + 1) g, clk, s :: seen, rfl, (hg.bump hbm).weak (by omega), fun e he hse h3 h4 => ?_, rfl, rfl⟩
              rw [(bornG_keys b (v + 1) g).1]
              rcases List.mem_cons.1 hse with q | q
              · rw [findB_one ht.stamps he h2 q]; exact List.mem_map.2 ⟨_, hbm, rfl⟩
              · exact hdone e he q h3 h4
        · (conv => whnf)
          refine AW.pre tokT (fun _ => true) ?_; (conv => whnf)
          (refine Turned.of [0, 1, 2, 3, 4] [(0, .ptr 0 0 0 0), (2, .mp 4)] [c.varE true 1 2 3, c.mapE false, c.wayE true, c.orpE true, ⟨0, false, none, .map .u8 32 (gnM g) clk⟩] (by rfl) (by rfl) (by rfl) (by (repeat' (first | exact True.intro | exact rfl | refine And.intro ?_ ?_ | (simp [AV.ren, AV.rens, AObj.ren, Ent.ren, AV.inn, AV.inns, AObj.inn, *]; done)))) (by (repeat' (first | exact True.intro | exact rfl | refine And.intro ?_ ?_ | (simp [AV.ren, AV.rens, AObj.ren, Ent.ren, AV.inn, AV.inns, AObj.inn, *]; done)))) ?_)
          refine ⟨g, clk, hg.weak (by omega), fun e he h1 h2 => hdone e he (hall _ (knM_of he)) h1 h2, rfl, rfl⟩
    rintro fr hp ⟨g, clk, hg, hbase, rfl, rfl⟩
    refine AW.cutT (fun fr hp => fr = [(0, .ptr 0 0 0 0), (2, .mp 4)] ∧ hp = [c.varE true 1 2 3, c.mapE false, c.wayE true, c.orpE true, ⟨0, false, none, .map .u8 32 (gnM g) clk⟩]) ?_ ?_
    · refine ev_sound tokT (keep := fun _ => true) ?_
      (conv => whnf)
      (refine Turned.of [0, 1, 2, 3, 4] [(0, .ptr 0 0 0 0), (2, .mp 4)] [c.varE true 1 2 3, c.mapE false, c.wayE true, c.orpE true, ⟨0, false, none, .map .u8 32 (gnM g) clk⟩] (by rfl) (by rfl) (by rfl) (by (repeat' (first | exact True.intro | exact rfl | refine And.intro ?_ ?_ | (simp [AV.ren, AV.rens, AObj.ren, Ent.ren, AV.inn, AV.inns, AObj.inn, *]; done)))) (by (repeat' (first | exact True.intro | exact rfl | refine And.intro ?_ ?_ | (simp [AV.ren, AV.rens, AObj.ren, Ent.ren, AV.inn, AV.inns, AObj.inn, *]; done)))) ?_)
      exact ⟨rfl, rfl⟩
    rintro fr hp ⟨rfl, rfl⟩
    exact hr _ _ _ ⟨g, clk, rfl, hg, hbase, rfl, rfl⟩
end Go.Aw
