/-
  AwCh9: the best header: the walk. Own work.
-/
import Derived.Test.YtdababcblhbpeaaAwCh8
set_option linter.unusedVariables false
set_option linter.unusedSimpArgs false
set_option maxRecDepth 20000
open Go.Proofs
namespace Go.Aw

theorem findB_knM {b : Nat} {id : List Int} {x : KH} : ∀ {l : List (Nat × List Int × KH)}, (l.map (·.1)).Nodup → (b, id, x) ∈ l → findB b (knM l) = some (b, id, x.av)
  | [], _, h => by cases h
  | e :: r, hn, h => by
    simp only [List.map_cons, List.nodup_cons] at hn
    simp only [knM, List.map_cons, findB]
    rcases List.mem_cons.1 h with g | g
    · subst g; simp
    · have hne : e.1 ≠ b := by
        intro q
        exact hn.1 (List.mem_map.2 ⟨_, g, q.symm⟩)
      have : Nat.beq e.1 b = false := by
        cases hb : Nat.beq e.1 b with
        | false => rfl
        | true => exact absurd (Nat.eq_of_beq_eq_true hb) hne
      rw [this]
      exact findB_knM hn.2 g
theorem findB_one {a e : Nat × List Int × KH} : ∀ {l : List (Nat × List Int × KH)}, (l.map (·.1)).Nodup → a ∈ l → e ∈ l → a.1 = e.1 → a = e
  | [], _, h, _, _ => by cases h
  | z :: r, hn, h1, h2, h3 => by
    simp only [List.map_cons, List.nodup_cons] at hn
    rcases List.mem_cons.1 h1 with g | g <;> rcases List.mem_cons.1 h2 with g' | g'
    · rw [g, g']
    · subst g; exact absurd (List.mem_map.2 ⟨_, g', h3.symm⟩) hn.1
    · subst g'; exact absurd (List.mem_map.2 ⟨_, g, h3⟩) hn.1
    · exact findB_one hn.2 g g' h3
theorem knM_mem {e : Nat × List Int × AV} {l : List (Nat × List Int × KH)} (h : e ∈ knM l) : ∃ x, e = (e.1, e.2.1, KH.av x) ∧ (e.1, e.2.1, x) ∈ l := by
  obtain ⟨y, hy, rfl⟩ := List.mem_map.1 h
  exact ⟨y.2.2, rfl, hy⟩
theorem knM_of {e : Nat × List Int × KH} {l : List (Nat × List Int × KH)} (h : e ∈ l) : (e.1, e.2.1, KH.av e.2.2) ∈ knM l := List.mem_map.2 ⟨e, h, rfl⟩
/-- how many were not seen -/
def unseen (seen : List Nat) (l : List (Nat × List Int × KH)) : Nat := (l.filter fun e => !(seen.contains e.1)).length
theorem unseen_le (s : Nat) (seen : List Nat) : ∀ (l : List (Nat × List Int × KH)), unseen (s :: seen) l ≤ unseen seen l
  | [] => Nat.le_refl _
  | e :: r => by
    have := unseen_le s seen r
    unfold unseen at this ⊢
    rw [List.filter_cons, List.filter_cons]
    by_cases h1 : seen.contains e.1 = true
    · have h2 : (s :: seen).contains e.1 = true := by
        rw [List.contains_iff_mem] at h1 ⊢
        exact .tail _ h1
      rw [h1, h2]; simp only [Bool.not_false, Bool.not_true, if_true, if_false, List.length_cons, Bool.false_eq_true]; exact this
    · rw [Bool.not_eq_true] at h1
      rw [h1]
      cases (s :: seen).contains e.1 <;> simp only [Bool.not_false, Bool.not_true, if_true, if_false, List.length_cons, Bool.false_eq_true] <;> omega
theorem unseen_lt {e : Nat × List Int × KH} {seen : List Nat} : ∀ {l : List (Nat × List Int × KH)}, e ∈ l → e.1 ∉ seen → unseen (e.1 :: seen) l < unseen seen l
  | [], h, _ => by cases h
  | a :: r, h, hs => by
    have hle := unseen_le e.1 seen r
    unfold unseen at hle ⊢
    rw [List.filter_cons, List.filter_cons]
    rcases List.mem_cons.1 h with g | g
    · subst g
      have h1 : seen.contains e.1 = false := by rw [← Bool.not_eq_true, List.contains_iff_mem]; exact hs
      have h2 : (e.1 :: seen).contains e.1 = true := by rw [List.contains_iff_mem]; exact .head _
      rw [h1, h2]; simp only [Bool.not_false, Bool.not_true, if_true, if_false, List.length_cons, Bool.false_eq_true]; omega
    · have ih := unseen_lt g hs
      unfold unseen at ih
      by_cases h1 : seen.contains a.1 = true
      · have h2 : (e.1 :: seen).contains a.1 = true := by
          rw [List.contains_iff_mem] at h1 ⊢
          exact .tail _ h1
        rw [h1, h2]; simp only [Bool.not_false, Bool.not_true, if_true, if_false, List.length_cons, Bool.false_eq_true]; exact ih
      · rw [Bool.not_eq_true] at h1
        rw [h1]
        cases (e.1 :: seen).contains a.1 <;> simp only [Bool.not_false, Bool.not_true, if_true, if_false, List.length_cons, Bool.false_eq_true] <;> omega

theorem best_ok (c : Ch) {N : Nat} (hc : KOk c N) (ht : Tree c) :
    AC Try.prog 117 [.ptr 0 0 0 0] [c.varE true 1 2 3, c.mapE false, c.wayE true, c.orpE true] (fun r hp' => r = .agg [.ints .u8 32 c.best] ∧ hp' = [c.varE true 1 2 3, c.mapE false, c.wayE true, c.orpE true]) := by
  refine AC.left (AC.body tokT Try.func117 rfl rfl rfl (by decide) (by rfl) ?_)
  have hh := height_ok c hc.wayn
  obtain ⟨htip, K, hK, _⟩ := ht.tips hc.way.1
  have hlen := hc.way.1
  have hK' : (findK c.tip c.known).getD zeroK = K := by rw [hK]; rfl
  have hlk : findM c.tip (knM c.known) = none ∧ findK c.tip c.known = none ∨ ∃ b x, findM c.tip (knM c.known) = some (b, c.tip, KH.av x) ∧ findK c.tip c.known = some x := findM_knM _ _
  have htl : c.tip.length = 32 := hc.lens _ (List.mem_of_getElem? htip)
  have e1 : ((c.way.length : Int) - 1).toNat = c.way.length - 1 := by omega
  have e2 : (rowH c.way)[0 + ((c.way.length : Int) - 1).toNat]? = some [.ints .u8 32 c.tip] := by
    rw [Nat.zero_add, e1]
    simp [rowH, htip]
  obtain ⟨bK, hbK⟩ := findK_mem hK
  have hborn : ∀ e ∈ knM c.known, e.1 < c.clock := by
    intro e he
    obtain ⟨x, h1, h2⟩ := knM_mem he
    exact ht.born _ h2
  unfold Ch.varE Ch.mapE Ch.wayE Ch.orpE at hh ⊢
  refine AW.pre tokT (fun _ => true) ?_; (conv => whnf)
  refine AW.seq (AW.drawT (.pure 0 (.pure 1 (.pure 2 (.pure 3 (.pure 4 (.one 5 (.pure 6 (.pure 7 (.one 8 .fin))))))))) (keep := fun _ => true) mixed_okC tokT (by kernel_rfl) (by kernel_rfl) ?_)
  ((conv => whnf); (repeat (((refine Exists.intro _ (And.intro (by ((conv => whnf); (repeat ((refine And.intro (by exact rfl) ?_); (conv => whnf))))) ?_)); (conv => whnf)))))
  refine AC.frame hh [0, 1, 2, 3] (by (repeat' (first | exact True.intro | exact rfl | refine And.intro ?_ ?_ | (simp [AV.ren, AV.rens, AObj.ren, Ent.ren, AV.inn, AV.inns, AObj.inn, *]; done)))) (by rfl) (by (repeat' (first | exact True.intro | refine And.intro ?_ ?_ | (simp [AV.ren, AV.rens, AObj.ren, Ent.ren, AV.inn, AV.inns, AObj.inn, *]; done)))) (by rfl) ?_
  rintro r0 hp0 ⟨rfl, rfl⟩
  ((conv => whnf); (repeat (first | ((with_reducible (refine And.intro (show Go.Aw.againsK _ _ _ _ _ from ?_) ?_)); (focus (repeat' (first | ((with_reducible (show Go.Aw.againsK _ _ _ _ _)); (conv => whnf)) | ((with_reducible (show Go.Aw.againK _ _ _ _ _)); (conv => whnf)) | (with_reducible (exact True.intro)) | (with_reducible (refine And.intro ?_ ?_)) | exact rfl))); (conv => whnf)) | ((refine Exists.intro _ (And.intro (by ((conv => whnf); (repeat ((refine And.intro (by first | exact rfl | omega) ?_); (conv => whnf))))) ?_)); (conv => whnf)))))
  refine Exists.intro (.agg [.ints .u8 32 c.tip]) (And.intro (by (conv => whnf); rw [e2]; exact ⟨rfl, rfl⟩) ?_)
  ((conv => whnf); (repeat (((with_reducible (refine And.intro (show Go.Aw.againsK _ _ _ _ _ from ?_) ?_)); (focus (repeat' (first | ((with_reducible (show Go.Aw.againsK _ _ _ _ _)); (conv => whnf)) | (with_reducible (exact True.intro))))); (conv => whnf)))))

  refine AW.seq (AW.drawT (.pure 0 (.pure 1 (.pure 2 (.pure 3 (.pure 4 (.pure 5 (.one 6 (.one 7 .fin)))))))) (keep := fun _ => true) mixed_okC tokT (by kernel_rfl) (by kernel_rfl) ?_)
  ((conv => whnf); (repeat (((refine Exists.intro _ (And.intro (by ((conv => whnf); (repeat ((refine And.intro (by exact rfl) ?_); (conv => whnf))))) ?_)); (conv => whnf)))))
  refine Exists.intro (K.av) (And.intro (by (conv => whnf); rcases hlk with ⟨g1, g2⟩ | ⟨b, x, g1, g2⟩ <;> rw [g1, ← hK', g2] <;> exact ⟨rfl, rfl⟩) ?_)
  ((conv => whnf); (repeat (((with_reducible (refine And.intro (show Go.Aw.againsK _ _ _ _ _ from ?_) ?_)); (focus (repeat' (first | ((with_reducible (show Go.Aw.againsK _ _ _ _ _)); (conv => whnf)) | ((with_reducible (show Go.Aw.againK _ _ _ _ _)); (conv => whnf)) | (with_reducible (exact True.intro)) | (with_reducible (refine And.intro ?_ ?_)) | exact rfl))); (conv => whnf)))))
  · rcases hlk with ⟨g1, g2⟩ | ⟨b, x, g1, g2⟩ <;> rw [g1, ← hK', g2] <;> exact ⟨rfl, rfl⟩
  ((conv => whnf); (repeat (((with_reducible (refine And.intro (show Go.Aw.againsK _ _ _ _ _ from ?_) ?_)); (focus (repeat' (first | ((with_reducible (show Go.Aw.againsK _ _ _ _ _)); (conv => whnf)) | (with_reducible (exact True.intro))))); (conv => whnf)))))
  refine AW.cutT (fun fr hp => fr = [(2, .ptr 4 0 0 0)] ∧ ∃ X : KH, hp = [c.varE true 1 2 3, c.mapE false, c.wayE true, c.orpE true, ⟨32, false, none, .var [.ints .u8 32 c.best]⟩, ⟨35, false, none, .var X.av.segs⟩]) ?_ ?_
  · refine AW.pre tokT (fun _ => true) ?_; (conv => whnf)
    (refine AW.turnL [0, 1, 2, 3, 4, 5, 6] [(0, .ptr 0 0 0 0), (2, .ptr 4 0 0 0), (3, .ptr 5 0 0 0), (24, .ptr 6 0 0 0)] [c.varE true 1 2 3, c.mapE false, c.wayE true, c.orpE true, ⟨32, false, none, .var [.ints .u8 32 c.tip]⟩, ⟨35, false, none, .var K.av.segs⟩, ⟨0, false, none, .iter 1 c.clock [] c.clock⟩] (by rfl) (by rfl) (by rfl) (by (repeat' (first | exact True.intro | exact rfl | refine And.intro ?_ ?_ | (simp [AV.ren, AV.rens, AObj.ren, Ent.ren, AV.inn, AV.inns, AObj.inn, *]; done)))) (by (repeat' (first | exact True.intro | exact rfl | refine And.intro ?_ ?_ | (simp [AV.ren, AV.rens, AObj.ren, Ent.ren, AV.inn, AV.inns, AObj.inn, *]; done)))) ?_)
    refine AW.block ?_
    refine AW.loop (fun n fr hp => ∃ (id : List Int) (x : KH) (b : Nat) (seen : List Nat), n = unseen seen c.known ∧ (b, id, x) ∈ c.known ∧ (∀ e ∈ c.known, e.1 ∈ seen → betterK e.2.2 x = false) ∧
      fr = [(0, .ptr 0 0 0 0), (2, .ptr 4 0 0 0), (3, .ptr 5 0 0 0), (24, .ptr 6 0 0 0)] ∧ hp = [c.varE true 1 2 3, c.mapE false, c.wayE true, c.orpE true, ⟨32, false, none, .var [.ints .u8 32 id]⟩, ⟨35, false, none, .var x.av.segs⟩, ⟨0, false, none, .iter 1 c.clock seen c.clock⟩]) (unseen [] c.known) ?_ ?_
    · exact ⟨c.tip, K, bK, [], rfl, hbK, fun e he hs => absurd hs (by simp), rfl, rfl⟩
    · rintro n fr hp ⟨id, x, b, seen, rfl, hm, hmax, rfl, rfl⟩ -
      refine AW.post ?_
      unfold Ch.varE Ch.mapE Ch.wayE Ch.orpE
      refine AW.pre tokT (fun _ => true) ?_
      (conv => whnf)
      refine And.intro ⟨⟨rfl, rfl⟩, hborn⟩ (And.intro (fun e he hs => ?_) (fun hall => ?_))
      · obtain ⟨y, h1, h2⟩ := knM_mem he
        obtain ⟨s, eid, ev⟩ := e
        simp only [Prod.mk.injEq, true_and] at h1
        subst h1
        simp only [] at hs h2
        have hF := findB_knM ht.stamps h2
        (conv => whnf)
        refine AW.pre tokT (fun _ => true) ?_; (conv => whnf)
        refine AW.block ?_
        refine AW.pre tokT (fun _ => true) ?_; ((conv => whnf); (repeat (((refine And.intro (by exact rfl) ?_); (conv => whnf)))))
        rw [hF]
        (conv => whnf)
        (refine AW.turnL [0, 1, 2, 3, 4, 5, 6, 7, 8] [(0, .ptr 0 0 0 0), (2, .ptr 4 0 0 0), (3, .ptr 5 0 0 0), (24, .ptr 6 0 0 0), (4, .ptr 7 0 0 0), (5, .ptr 8 0 0 0)] [c.varE true 1 2 3, c.mapE false, c.wayE true, c.orpE true, ⟨32, false, none, .var [.ints .u8 32 id]⟩, ⟨35, false, none, .var x.av.segs⟩, ⟨0, false, none, .iter 1 c.clock (s :: seen) c.clock⟩, ⟨32, false, none, .var [.ints .u8 32 eid]⟩, ⟨35, false, none, .var y.av.segs⟩] (by rfl) (by rfl) (by rfl) (by (repeat' (first | exact True.intro | exact rfl | refine And.intro ?_ ?_ | (simp [AV.ren, AV.rens, AObj.ren, Ent.ren, AV.inn, AV.inns, AObj.inn, *]; done)))) (by (repeat' (first | exact True.intro | exact rfl | refine And.intro ?_ ?_ | (simp [AV.ren, AV.rens, AObj.ren, Ent.ren, AV.inn, AV.inns, AObj.inn, *]; done)))) ?_)
        have hlast : ∀ e ∈ c.known, e.1 ∈ s :: seen → betterK y x = false → betterK e.2.2 x = false := by
          intro e he hs hb
          rcases List.mem_cons.1 hs with g | g
          · have := findB_one ht.stamps he h2 g
            rw [this]; exact hb
          · exact hmax e he g
        refine AW.cutT (fun fr hp => fr = [(0, .ptr 0 0 0 0), (2, .ptr 4 0 0 0), (3, .ptr 5 0 0 0), (24, .ptr 6 0 0 0), (4, .ptr 7 0 0 0), (5, .ptr 8 0 0 0), (48, .bool (betterK y x))] ∧ hp = [c.varE true 1 2 3, c.mapE false, c.wayE true, c.orpE true, ⟨32, false, none, .var [.ints .u8 32 id]⟩, ⟨35, false, none, .var x.av.segs⟩, ⟨0, false, none, .iter 1 c.clock (s :: seen) c.clock⟩, ⟨32, false, none, .var [.ints .u8 32 eid]⟩, ⟨35, false, none, .var y.av.segs⟩]) ?_ ?_
        · refine ev_sound tokT (keep := fun _ => true) ?_
          (conv => whnf)
          (cases g1 : (decide (y.work > x.work) : Bool) <;> (try simp only [beq_iff_eq, beq_eq_false_iff_ne, ne_eq, decide_eq_true_eq, decide_eq_false_iff_not, bne_iff_ne, bne_eq_false_iff_eq, Bool.not_eq_true, Bool.not_eq_false, gt_iff_lt, ge_iff_le] at g1) <;> (try (exfalso; omega)))
          case' true =>
            have hb : betterK y x = true := by rw [betterK_true]; omega
            rw [hb]
            (conv => whnf)
            (refine Turned.of [0, 1, 2, 3, 4, 5, 6, 7, 8] [(0, .ptr 0 0 0 0), (2, .ptr 4 0 0 0), (3, .ptr 5 0 0 0), (24, .ptr 6 0 0 0), (4, .ptr 7 0 0 0), (5, .ptr 8 0 0 0), (48, .bool (true))] [c.varE true 1 2 3, c.mapE false, c.wayE true, c.orpE true, ⟨32, false, none, .var [.ints .u8 32 id]⟩, ⟨35, false, none, .var x.av.segs⟩, ⟨0, false, none, .iter 1 c.clock (s :: seen) c.clock⟩, ⟨32, false, none, .var [.ints .u8 32 eid]⟩, ⟨35, false, none, .var y.av.segs⟩] (by rfl) (by rfl) (by rfl) (by (repeat' (first | exact True.intro | exact rfl | refine And.intro ?_ ?_ | (simp [AV.ren, AV.rens, AObj.ren, Ent.ren, AV.inn, AV.inns, AObj.inn, *]; done)))) (by (repeat' (first | exact True.intro | exact rfl | refine And.intro ?_ ?_ | (simp [AV.ren, AV.rens, AObj.ren, Ent.ren, AV.inn, AV.inns, AObj.inn, *]; done)))) ?_)
            exact ⟨rfl, rfl⟩
          (conv => whnf); (cases g2 : (y.work == x.work : Bool) <;> (try simp only [beq_iff_eq, beq_eq_false_iff_ne, ne_eq, decide_eq_true_eq, decide_eq_false_iff_not, bne_iff_ne, bne_eq_false_iff_eq, Bool.not_eq_true, Bool.not_eq_false, gt_iff_lt, ge_iff_le] at g2) <;> (try (exfalso; omega)))
          case' false =>
            have hb : betterK y x = false := by rw [betterK_false]; omega
            rw [hb]
            (conv => whnf)
            (refine Turned.of [0, 1, 2, 3, 4, 5, 6, 7, 8] [(0, .ptr 0 0 0 0), (2, .ptr 4 0 0 0), (3, .ptr 5 0 0 0), (24, .ptr 6 0 0 0), (4, .ptr 7 0 0 0), (5, .ptr 8 0 0 0), (48, .bool (false))] [c.varE true 1 2 3, c.mapE false, c.wayE true, c.orpE true, ⟨32, false, none, .var [.ints .u8 32 id]⟩, ⟨35, false, none, .var x.av.segs⟩, ⟨0, false, none, .iter 1 c.clock (s :: seen) c.clock⟩, ⟨32, false, none, .var [.ints .u8 32 eid]⟩, ⟨35, false, none, .var y.av.segs⟩] (by rfl) (by rfl) (by rfl) (by (repeat' (first | exact True.intro | exact rfl | refine And.intro ?_ ?_ | (simp [AV.ren, AV.rens, AObj.ren, Ent.ren, AV.inn, AV.inns, AObj.inn, *]; done)))) (by (repeat' (first | exact True.intro | exact rfl | refine And.intro ?_ ?_ | (simp [AV.ren, AV.rens, AObj.ren, Ent.ren, AV.inn, AV.inns, AObj.inn, *]; done)))) ?_)
            exact ⟨rfl, rfl⟩
          have hb : betterK y x = decide (y.came < x.came) := by
            rw [Bool.eq_iff_iff, betterK_true, decide_eq_true_eq]; omega
          rw [hb]
          (conv => whnf)
          (refine Turned.of [0, 1, 2, 3, 4, 5, 6, 7, 8] [(0, .ptr 0 0 0 0), (2, .ptr 4 0 0 0), (3, .ptr 5 0 0 0), (24, .ptr 6 0 0 0), (4, .ptr 7 0 0 0), (5, .ptr 8 0 0 0), (48, .bool (decide (y.came < x.came)))] [c.varE true 1 2 3, c.mapE false, c.wayE true, c.orpE true, ⟨32, false, none, .var [.ints .u8 32 id]⟩, ⟨35, false, none, .var x.av.segs⟩, ⟨0, false, none, .iter 1 c.clock (s :: seen) c.clock⟩, ⟨32, false, none, .var [.ints .u8 32 eid]⟩, ⟨35, false, none, .var y.av.segs⟩] (by rfl) (by rfl) (by rfl) (by (repeat' (first | exact True.intro | exact rfl | refine And.intro ?_ ?_ | (simp [AV.ren, AV.rens, AObj.ren, Ent.ren, AV.inn, AV.inns, AObj.inn, *]; done)))) (by (repeat' (first | exact True.intro | exact rfl | refine And.intro ?_ ?_ | (simp [AV.ren, AV.rens, AObj.ren, Ent.ren, AV.inn, AV.inns, AObj.inn, *]; done)))) ?_)
          exact ⟨rfl, rfl⟩
        · rintro fr hp ⟨rfl, rfl⟩
          refine AW.condK ?_
          (conv => whnf)
          cases hbt : betterK y x with
          | true =>
            (conv => whnf)
            refine AW.drawT (.pure 0 (.pure 1 (.one 2 (.one 3 .fin)))) (keep := fun _ => true) mixed_okC tokT (by kernel_rfl) (by kernel_rfl) ?_
            ((conv => whnf); (repeat (first | ((with_reducible (refine And.intro (show Go.Aw.againsK _ _ _ _ _ from ?_) ?_)); (focus (repeat' (first | ((with_reducible (show Go.Aw.againsK _ _ _ _ _)); (conv => whnf)) | ((with_reducible (show Go.Aw.againK _ _ _ _ _)); (conv => whnf)) | (with_reducible (exact True.intro)) | (with_reducible (refine And.intro ?_ ?_)) | exact rfl))); (conv => whnf)) | ((refine Exists.intro _ (And.intro (by ((conv => whnf); (repeat ((refine And.intro (by exact rfl) ?_); (conv => whnf))))) ?_)); (conv => whnf)))))
            (refine Turned.of [0, 1, 2, 3, 4, 5, 6] [(0, .ptr 0 0 0 0), (2, .ptr 4 0 0 0), (3, .ptr 5 0 0 0), (24, .ptr 6 0 0 0)] [c.varE true 1 2 3, c.mapE false, c.wayE true, c.orpE true, ⟨32, false, none, .var [.ints .u8 32 eid]⟩, ⟨35, false, none, .var y.av.segs⟩, ⟨0, false, none, .iter 1 c.clock (s :: seen) c.clock⟩] (by rfl) (by rfl) (by rfl) (by (repeat' (first | exact True.intro | exact rfl | refine And.intro ?_ ?_ | (simp [AV.ren, AV.rens, AObj.ren, Ent.ren, AV.inn, AV.inns, AObj.inn, *]; done)))) (by (repeat' (first | exact True.intro | exact rfl | refine And.intro ?_ ?_ | (simp [AV.ren, AV.rens, AObj.ren, Ent.ren, AV.inn, AV.inns, AObj.inn, *]; done)))) ?_)
            refine ⟨_, unseen_lt h2 hs, eid, y, s, s :: seen, rfl, h2, fun e he hse => ?_, rfl, rfl⟩
            rcases List.mem_cons.1 hse with g | g
            · rw [findB_one ht.stamps he h2 g, betterK_false]; simp only []; omega
            · have q := hmax e he g
              rw [betterK_false] at q ⊢
              rw [betterK_true] at hbt
              omega
          | false =>
            refine ev_sound tokT (keep := fun _ => true) ?_
            (conv => whnf)
            (refine Turned.of [0, 1, 2, 3, 4, 5, 6] [(0, .ptr 0 0 0 0), (2, .ptr 4 0 0 0), (3, .ptr 5 0 0 0), (24, .ptr 6 0 0 0)] [c.varE true 1 2 3, c.mapE false, c.wayE true, c.orpE true, ⟨32, false, none, .var [.ints .u8 32 id]⟩, ⟨35, false, none, .var x.av.segs⟩, ⟨0, false, none, .iter 1 c.clock (s :: seen) c.clock⟩] (by rfl) (by rfl) (by rfl) (by (repeat' (first | exact True.intro | exact rfl | refine And.intro ?_ ?_ | (simp [AV.ren, AV.rens, AObj.ren, Ent.ren, AV.inn, AV.inns, AObj.inn, *]; done)))) (by (repeat' (first | exact True.intro | exact rfl | refine And.intro ?_ ?_ | (simp [AV.ren, AV.rens, AObj.ren, Ent.ren, AV.inn, AV.inns, AObj.inn, *]; done)))) ?_)
            exact ⟨_, unseen_lt h2 hs, id, x, b, s :: seen, rfl, hm, fun e he hse => hlast e he hse hbt, rfl, rfl⟩
      · (conv => whnf)
        refine AW.pre tokT (fun _ => true) ?_; (conv => whnf)
        have hb : c.best = id := ht.best_one hc.way.1 hm (fun e he => hmax e he (hall _ (knM_of he)))
        (refine Turned.of [0, 1, 2, 3, 4, 5] [(2, .ptr 4 0 0 0)] [c.varE true 1 2 3, c.mapE false, c.wayE true, c.orpE true, ⟨32, false, none, .var [.ints .u8 32 id]⟩, ⟨35, false, none, .var x.av.segs⟩] (by rfl) (by rfl) (by rfl) (by (repeat' (first | exact True.intro | exact rfl | refine And.intro ?_ ?_ | (simp [AV.ren, AV.rens, AObj.ren, Ent.ren, AV.inn, AV.inns, AObj.inn, *]; done)))) (by (repeat' (first | exact True.intro | exact rfl | refine And.intro ?_ ?_ | (simp [AV.ren, AV.rens, AObj.ren, Ent.ren, AV.inn, AV.inns, AObj.inn, *]; done)))) ?_)
        rw [hb]
        exact ⟨rfl, _, rfl⟩
  · rintro fr hp ⟨rfl, X, rfl⟩
    refine ev_sound tokT (keep := fun _ => true) ?_
    unfold Ch.varE Ch.mapE Ch.wayE Ch.orpE
    (conv => whnf)
    (refine Left.of [0, 1, 2, 3] (.agg [.ints .u8 32 c.best]) [c.varE true 1 2 3, c.mapE false, c.wayE true, c.orpE true] (by rfl) (by rfl) (by rfl) (by (repeat' (first | exact True.intro | exact rfl | refine And.intro ?_ ?_ | (simp [AV.ren, AV.rens, AObj.ren, Ent.ren, AV.inn, AV.inns, AObj.inn, *]; done)))) (by rfl) (by (repeat' (first | exact True.intro | exact rfl | refine And.intro ?_ ?_ | (simp [AV.ren, AV.rens, AObj.ren, Ent.ren, AV.inn, AV.inns, AObj.inn, *]; done)))) ?_)
    exact ⟨rfl, rfl⟩
end Go.Aw
