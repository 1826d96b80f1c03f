/-
  AwCh7: a chain adopts: the walk. Own work.
-/
import Derived.Test.YtdababcblhbpeaaAwCh6
set_option linter.unusedVariables false
set_option linter.unusedSimpArgs false
set_option maxRecDepth 20000
open Go.Proofs
namespace Go.Aw

theorem adopts_ok (c : Ch) {N : Nat} (hc : KOk c N) :
    AC Try.prog 94 [.ptr 0 0 0 0] [c.varE false 1 2 3, c.mapE false, c.wayE true, c.orpE false]
      (fun r hp' => r = .tup [] ∧ hp' = [(adoptC c).varE false 1 2 3, (adoptC c).mapE false, (adoptC c).wayE true, (adoptC c).orpE false]) := by
  refine AC.left (AC.body tokT Try.func94 rfl rfl rfl (by decide) (by rfl) ?_)
  refine AW.cutT (fun fr hp => fr = [(1, .ptr 4 0 0 0)] ∧ hp = [c.varE false 1 2 3, c.mapE false, c.wayE true, c.orpE false, ⟨1, false, none, .var [.ptr 0 0 0 0]⟩]) ?_ ?_
  · refine ev_sound tokT (keep := fun _ => true) ?_
    (conv => whnf)
    (refine Turned.of [0, 1, 2, 3, 4] [(1, .ptr 4 0 0 0)] [c.varE false 1 2 3, c.mapE false, c.wayE true, c.orpE false, ⟨1, false, none, .var [.ptr 0 0 0 0]⟩] (by rfl) (by rfl) (by rfl) (by (repeat' (first | exact True.intro | exact rfl | refine And.intro ?_ ?_ | (simp [AV.ren, AV.rens, AObj.ren, Ent.ren, AV.inn, AV.inns, AObj.inn, *]; done)))) (by (repeat' (first | exact True.intro | exact rfl | refine And.intro ?_ ?_ | (simp [AV.ren, AV.rens, AObj.ren, Ent.ren, AV.inn, AV.inns, AObj.inn, *]; done)))) ?_)
    exact ⟨rfl, rfl⟩
  rintro fr hp ⟨rfl, rfl⟩
  refine AW.scopeBack 0 (by rfl) (fun q fr hp => ∃ c' : Ch, q = c'.orphans.length ∧ KOk c' N ∧ adoptN c'.orphans.length c' = adoptC c ∧ fr = [(1, .ptr 4 0 0 0)] ∧ hp = [c'.varE false 1 2 3, c'.mapE false, c'.wayE true, c'.orpE false, ⟨1, false, none, .var [.ptr 0 0 0 0]⟩]) ?_ ?_
  · rintro q fr hp ⟨c', rfl, hc', hrun, rfl, rfl⟩
    refine AW.postG ?_
    have hk := idxK_ok c' none hc'.orps hc'.orpn
    obtain ⟨I, hI⟩ : ∃ I, idxI (prevKn c') c'.orphans = I := ⟨_, rfl⟩
    rw [hI] at hk
    unfold Ch.varE Ch.mapE Ch.wayE Ch.orpE at hk ⊢
    refine AW.pre tokT (fun _ => true) ?_; (conv => whnf)
    refine AC.frame hk [0, 1, 2, 3, 4] (by (repeat' (first | exact True.intro | exact rfl | refine And.intro ?_ ?_ | (simp [AV.ren, AV.rens, AObj.ren, Ent.ren, AV.inn, AV.inns, AObj.inn, *]; done)))) (by rfl) (by (repeat' (first | exact True.intro | refine And.intro ?_ ?_ | (simp [AV.ren, AV.rens, AObj.ren, Ent.ren, AV.inn, AV.inns, AObj.inn, *]; done)))) (by rfl) ?_
    rintro r0 hp0 ⟨rfl, rfl⟩
    cases hf : idxF (prevKn c') c'.orphans with
    | none =>
      have hI' : I = -1 := by rw [← hI]; unfold idxI; rw [hf]
      have hfin : adoptC c = c' := by
        rw [← hrun]
        cases hn : c'.orphans.length with
        | zero => rfl
        | succ n => simp only [adoptN, hf]
      subst hI'
      rw [hfin]
      (conv => whnf)
      refine ev_sound tokT (keep := fun _ => true) ?_
      (conv => whnf)
      (refine Left.of [0, 1, 2, 3] (.tup []) [c'.varE false 1 2 3, c'.mapE false, c'.wayE true, c'.orpE false] (by rfl) (by rfl) (by rfl) (by (repeat' (first | exact True.intro | exact rfl | refine And.intro ?_ ?_ | (simp [AV.ren, AV.rens, AObj.ren, Ent.ren, AV.inn, AV.inns, AObj.inn, *]; done)))) (by rfl) (by (repeat' (first | exact True.intro | exact rfl | refine And.intro ?_ ?_ | (simp [AV.ren, AV.rens, AObj.ren, Ent.ren, AV.inn, AV.inns, AObj.inn, *]; done)))) ?_)
      exact ⟨rfl, rfl⟩
    | some i =>
      obtain ⟨o, ho, hpo⟩ := idxF_some hf
      have hi := (List.getElem?_eq_some_iff.1 ho).1
      have hI' : I = (i : Int) := by rw [← hI]; unfold idxI; rw [hf]
      have hod : c'.orphans.getD i zeroO = o := by simp [ho]
      have hom : o ∈ c'.orphans := List.mem_of_getElem? ho
      obtain ⟨hc2, hlen⟩ := hc'.step ho
      have hrun2 : adoptN (stepC c' i o).orphans.length (stepC c' i o) = adoptC c := by
        rw [← hrun, ← hlen]
        simp only [adoptN, hf, hod]
      have e2 : (rowO c'.orphans)[0 + ((i : Nat) : Int).toNat]? = some (AV.ints .u8 32 o.1 :: o.2.segs) := by
        rw [Nat.zero_add, Int.toNat_natCast]; exact orp_at _ _ _ ho
      subst hI'
      (conv => whnf)
      refine AW.pre tokT (fun _ => true) ?_; (conv => whnf)
      rw [decide_eq_true (show ((i : Nat) : Int) ≥ 0 by omega)]
      refine AW.condK ?_
      (conv => whnf)
      refine AW.pre tokT (fun _ => true) ?_; ((conv => whnf); (repeat (((refine And.intro (by omega) ?_); (conv => whnf)))))
      rw [e2]
      (conv => whnf)
      (refine AW.turnL [0, 1, 2, 3, 4, 5] [(1, .ptr 4 0 0 0), (2, .int .i64 (i : Int)), (3, .ptr 5 0 0 0)] [c'.varE false 1 2 3, c'.mapE false, c'.wayE true, c'.orpE false, ⟨1, false, none, .var [.ptr 0 0 0 0]⟩, ⟨98, false, none, .var (AV.ints .u8 32 o.1 :: o.2.segs)⟩] (by rfl) (by rfl) (by rfl) (by (repeat' (first | exact True.intro | exact rfl | refine And.intro ?_ ?_ | (simp [AV.ren, AV.rens, AObj.ren, Ent.ren, AV.inn, AV.inns, AObj.inn, *]; done)))) (by (repeat' (first | exact True.intro | exact rfl | refine And.intro ?_ ?_ | (simp [AV.ren, AV.rens, AObj.ren, Ent.ren, AV.inn, AV.inns, AObj.inn, *]; done)))) ?_)
      refine AW.capOn 0 4 3 0 c'.orphans.length 7 false none [.int .i64 c'.k, .int .i64 c'.most, .mp 1, .sl 2 0 c'.way.length none, .sl 3 0 c'.orphans.length none, .int .i64 c'.came, .bool c'.halted]
        (fun C => [⟨7, false, none, .var [.int .i64 c'.k, .int .i64 c'.most, .mp 1, .sl 2 0 c'.way.length none, .sl 3 0 c'.orphans.length (some C), .int .i64 c'.came, .bool c'.halted]⟩, c'.mapE false, c'.wayE true, c'.orpE false, ⟨1, false, none, .var [.ptr 0 0 0 0]⟩, ⟨98, false, none, .var (AV.ints .u8 32 o.1 :: o.2.segs)⟩]) rfl rfl (fun C => rfl) (fun C hC => ?_)
      have hd := delete_ok c'.orphans i c'.orphans.length C rfl hc'.orpn hC hi
      refine AW.seq (AW.drawT (.pure 0 (.pure 1 (.pure 2 (.pure 3 (.pure 4 (.pure 5 (.pure 6 (.pure 7 (.one 8 (.pure 9 (.pure 10 (.one 11 .fin)))))))))))) (keep := fun _ => true) mixed_okC tokT (by kernel_rfl) (by kernel_rfl) ?_)
      ((conv => whnf); (repeat (((refine Exists.intro _ (And.intro (by ((conv => whnf); (repeat ((refine And.intro (by exact rfl) ?_); (conv => whnf))))) ?_)); (conv => whnf)))))
      refine AC.frame hd [3] (by (repeat' (first | exact True.intro | exact rfl | refine And.intro ?_ ?_ | (simp [AV.ren, AV.rens, AObj.ren, Ent.ren, AV.inn, AV.inns, AObj.inn, *]; done)))) (by rfl) (by (repeat' (first | exact True.intro | refine And.intro ?_ ?_ | (simp [AV.ren, AV.rens, AObj.ren, Ent.ren, AV.inn, AV.inns, AObj.inn, *]; done)))) (by rw [IntWalk.i64_in ((i : Int) + 1) (by have := hc'.orpn; omega)]; rfl) ?_
      rintro r0 hp0 ⟨rfl, rfl⟩
      ((conv => whnf); (repeat (first | ((with_reducible (refine And.intro (show Go.Aw.againsK _ _ _ _ _ from ?_) ?_)); (focus (repeat' (first | ((with_reducible (show Go.Aw.againsK _ _ _ _ _)); (conv => whnf)) | ((with_reducible (show Go.Aw.againK _ _ _ _ _)); (conv => whnf)) | (with_reducible (exact True.intro)) | (with_reducible (refine And.intro ?_ ?_)) | exact rfl))); (conv => whnf)) | ((refine Exists.intro _ (And.intro (by ((conv => whnf); (repeat ((refine And.intro (by exact rfl) ?_); (conv => whnf))))) ?_)); (conv => whnf)))))
      obtain ⟨c2, hc2e⟩ : ∃ c2, lessC c' i = c2 := ⟨_, rfl⟩
      have hl2 := (hc'.less hi).2
      have hk2 := (hc'.less hi).1
      rw [hc2e] at hl2 hk2
      have hor : c2.orphans = c'.orphans.take i ++ c'.orphans.drop (i + 1) := by rw [← hc2e]; rfl
      have hn2 : c'.orphans.length - 1 = c2.orphans.length := by omega
      have hrow : (rowO (c2.orphans ++ [zeroO])).take c2.orphans.length = rowO c2.orphans := by
        simp [rowO, List.take_left']
      rw [← hor, hn2]
      (refine AW.turnL [0, 1, 2, 3, 4, 5] [(1, .ptr 4 0 0 0), (3, .ptr 5 0 0 0)] [⟨7, false, none, .var [.int .i64 c'.k, .int .i64 c'.most, .mp 1, .sl 2 0 c'.way.length none, .sl 3 0 c2.orphans.length (some C), .int .i64 c'.came, .bool c'.halted]⟩, c'.mapE false, c'.wayE true, ⟨98, false, none, .row (rowO (c2.orphans ++ [zeroO]))⟩, ⟨1, false, none, .var [.ptr 0 0 0 0]⟩, ⟨98, false, none, .var (AV.ints .u8 32 o.1 :: o.2.segs)⟩] (by rfl) (by rfl) (by rfl) (by (repeat' (first | exact True.intro | exact rfl | refine And.intro ?_ ?_ | (simp [AV.ren, AV.rens, AObj.ren, Ent.ren, AV.inn, AV.inns, AObj.inn, *]; done)))) (by (repeat' (first | exact True.intro | exact rfl | refine And.intro ?_ ?_ | (simp [AV.ren, AV.rens, AObj.ren, Ent.ren, AV.inn, AV.inns, AObj.inn, *]; done)))) ?_)
      refine AW.capOff 0 4 7 false none _ [c2.varE false 1 2 3, c'.mapE false, c'.wayE true, ⟨98, false, none, .row (rowO (c2.orphans ++ [zeroO]))⟩, ⟨1, false, none, .var [.ptr 0 0 0 0]⟩, ⟨98, false, none, .var (AV.ints .u8 32 o.1 :: o.2.segs)⟩] rfl (by rw [← hc2e]; rfl) ?_
      refine AW.shorten 3 c2.orphans.length 98 false none (rowO (c2.orphans ++ [zeroO])) [c2.varE false 1 2 3, c2.mapE false, c2.wayE true, c2.orpE false, ⟨1, false, none, .var [.ptr 0 0 0 0]⟩, ⟨98, false, none, .var (AV.ints .u8 32 o.1 :: o.2.segs)⟩] (by decide) rfl (by rw [hrow, ← hc2e]; rfl) ?_
      have ht := takes_ok c2 o.1 o.2 (hc'.orps o hom).1 (hc'.orps o hom).2 hk2 (hc'.owrk o hom)
      have hst : stepC c' i o = if deepB c2 ((findK o.2.prev c2.known).getD zeroK).height = true then c2 else takesC c2 o.1 o.2 := by unfold stepC; rw [hc2e, ← hc2e]; rfl
      obtain ⟨d, hde⟩ : ∃ d, deepB c2 ((findK o.2.prev c2.known).getD zeroK).height = d := ⟨_, rfl⟩
      rw [hde] at ht hst
      refine ev_sound tokT (keep := fun _ => true) ?_
      unfold Ch.varE Ch.mapE Ch.wayE Ch.orpE at ht ⊢
      (conv => whnf)
      refine AC.frame ht [0, 1, 2, 3] (by (repeat' (first | exact True.intro | exact rfl | refine And.intro ?_ ?_ | (simp [AV.ren, AV.rens, AObj.ren, Ent.ren, AV.inn, AV.inns, AObj.inn, *]; done)))) (by rfl) (by (repeat' (first | exact True.intro | refine And.intro ?_ ?_ | (simp [AV.ren, AV.rens, AObj.ren, Ent.ren, AV.inn, AV.inns, AObj.inn, *]; done)))) (by rfl) ?_
      cases d with
      | true =>
        rw [if_pos rfl] at hst
        rintro r0 hp0 ⟨rfl, rfl⟩
        (conv => whnf)
        (refine Turned.of [0, 1, 2, 3, 4] [(1, .ptr 4 0 0 0)] [c2.varE false 1 2 3, c2.mapE false, c2.wayE true, c2.orpE false, ⟨1, false, none, .var [.ptr 0 0 0 0]⟩] (by rfl) (by rfl) (by rfl) (by (repeat' (first | exact True.intro | exact rfl | refine And.intro ?_ ?_ | (simp [AV.ren, AV.rens, AObj.ren, Ent.ren, AV.inn, AV.inns, AObj.inn, *]; done)))) (by (repeat' (first | exact True.intro | exact rfl | refine And.intro ?_ ?_ | (simp [AV.ren, AV.rens, AObj.ren, Ent.ren, AV.inn, AV.inns, AObj.inn, *]; done)))) ?_)
        exact ⟨c2.orphans.length, by omega, c2, rfl, hk2, by rw [← hst]; exact hrun2, rfl, rfl⟩
      | false =>
        rw [if_neg (by decide)] at hst
        rintro r0 hp0 ⟨rfl, rfl⟩
        (conv => whnf)
        (refine Turned.of [0, 1, 2, 3, 4] [(1, .ptr 4 0 0 0)] [⟨7, false, none, .var [.int .i64 c2.k, .int .i64 c2.most, .mp 1, .sl 2 0 c2.way.length none, .sl 3 0 c2.orphans.length none, .int .i64 (c2.came + 1), .bool c2.halted]⟩, ⟨0, false, none, .map .u8 32 (knM (takesC c2 o.1 o.2).known) (takesC c2 o.1 o.2).clock⟩, c2.wayE true, c2.orpE false, ⟨1, false, none, .var [.ptr 0 0 0 0]⟩] (by rfl) (by rfl) (by rfl) (by (repeat' (first | exact True.intro | exact rfl | refine And.intro ?_ ?_ | (simp [AV.ren, AV.rens, AObj.ren, Ent.ren, AV.inn, AV.inns, AObj.inn, *]; done)))) (by (repeat' (first | exact True.intro | exact rfl | refine And.intro ?_ ?_ | (simp [AV.ren, AV.rens, AObj.ren, Ent.ren, AV.inn, AV.inns, AObj.inn, *]; done)))) ?_)
        exact ⟨c2.orphans.length, by omega, takesC c2 o.1 o.2, rfl, by rw [← hst]; exact (hc'.step ho).1, by rw [← hst]; exact hrun2, rfl, rfl⟩
  · intro hr
    refine AW.cutT (fun fr hp => fr = [(1, .ptr 4 0 0 0)] ∧ hp = [c.varE false 1 2 3, c.mapE false, c.wayE true, c.orpE false, ⟨1, false, none, .var [.ptr 0 0 0 0]⟩]) ?_ ?_
    · refine ev_sound tokT (keep := fun _ => true) ?_
      (conv => whnf)
      (refine Turned.of [0, 1, 2, 3, 4] [(1, .ptr 4 0 0 0)] [c.varE false 1 2 3, c.mapE false, c.wayE true, c.orpE false, ⟨1, false, none, .var [.ptr 0 0 0 0]⟩] (by rfl) (by rfl) (by rfl) (by (repeat' (first | exact True.intro | exact rfl | refine And.intro ?_ ?_ | (simp [AV.ren, AV.rens, AObj.ren, Ent.ren, AV.inn, AV.inns, AObj.inn, *]; done)))) (by (repeat' (first | exact True.intro | exact rfl | refine And.intro ?_ ?_ | (simp [AV.ren, AV.rens, AObj.ren, Ent.ren, AV.inn, AV.inns, AObj.inn, *]; done)))) ?_)
      exact ⟨rfl, rfl⟩
    rintro fr hp ⟨rfl, rfl⟩
    exact hr c.orphans.length _ _ ⟨c, rfl, hc, rfl, rfl, rfl⟩
end Go.Aw
