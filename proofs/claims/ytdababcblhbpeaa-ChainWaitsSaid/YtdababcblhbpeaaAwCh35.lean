/-
  AwCh35: those that wait: Orphans. Own work.
-/
import Derived.Test.YtdababcblhbpeaaAwCh11
import Derived.Test.YtdababcblhbpeaaAwCh5
set_option linter.unusedVariables false
set_option linter.unusedSimpArgs false
set_option maxRecDepth 20000
set_option maxHeartbeats 1000000
open Go.Proofs
namespace Go.Aw

theorem orphans_ok (c : Ch) (hn : c.orphans.length ≤ 1000000) :
    AC Try.prog 65 [.ptr 0 0 0 0] [c.varE true 1 2 3, c.mapE true, c.wayE true, c.orpE true] (fun r hp' => r = .sl 4 0 c.orphans.length none ∧ hp' = [c.varE true 1 2 3, c.mapE true, c.wayE true, c.orpE true, ⟨32, false, none, .row (rowH (c.orphans.map (·.1)))⟩]) := by
  refine AC.left (AC.body tokT Try.func65 rfl rfl rfl (by decide) (by rfl) ?_)
  unfold Ch.varE Ch.mapE Ch.wayE Ch.orpE
  refine AW.pre tokT (fun _ => true) ?_; (conv => whnf)
  refine AW.nils [2] 32 (.row []) _ _ rfl rfl rfl ?_
  refine AW.cutT (fun fr hp => fr = [(0, .ptr 0 0 0 0), (2, .sl 4 0 0 none)] ∧ hp = [c.varE true 1 2 3, c.mapE true, c.wayE true, c.orpE true, ⟨32, false, none, .row (rowH [])⟩]) ?_ ?_
  · unfold Ch.varE Ch.mapE Ch.wayE Ch.orpE
    refine ev_sound tokT (keep := fun _ => true) ?_
    (conv => whnf)
    (refine Turned.of [0, 1, 2, 3, 4] [(0, .ptr 0 0 0 0), (2, .sl 4 0 0 none)] [c.varE true 1 2 3, c.mapE true, c.wayE true, c.orpE true, ⟨32, false, none, .row (rowH [])⟩] (by rfl) (by rfl) (by rfl) (by (repeat' (first | exact True.intro | exact rfl | refine And.intro ?_ ?_ | (simp [AV.ren, AV.rens, AObj.ren, Ent.ren, AV.inn, AV.inns, AObj.inn, *]; done)))) (by (repeat' (first | exact True.intro | exact rfl | refine And.intro ?_ ?_ | (simp [AV.ren, AV.rens, AObj.ren, Ent.ren, AV.inn, AV.inns, AObj.inn, *]; done)))) ?_)
    exact ⟨rfl, rfl⟩
  rintro fr hp ⟨rfl, rfl⟩
  obtain ⟨ids, hids⟩ : ∃ ids, c.orphans.map (·.1) = ids := ⟨_, rfl⟩
  have hil : ids.length = c.orphans.length := by rw [← hids]; simp
  rw [hids]
  refine AW.cutT (fun fr hp => fr = [(2, .sl 4 0 c.orphans.length none)] ∧ hp = [c.varE true 1 2 3, c.mapE true, c.wayE true, c.orpE true, ⟨32, false, none, .row (rowH ids)⟩]) ?_ ?_
  · unfold Ch.varE Ch.mapE Ch.wayE Ch.orpE
    refine AW.pre tokT (fun _ => true) ?_; (conv => whnf)
    refine AW.block ?_
    (refine AW.turnL [0, 1, 2, 3, 4] [(2, .sl 4 0 0 none), (10, .sl 3 0 c.orphans.length none), (11, .int .i64 (c.orphans.length : Int)), (12, .int .i64 0)] [c.varE true 1 2 3, c.mapE true, c.wayE true, c.orpE true, ⟨32, false, none, .row (rowH [])⟩] (by rfl) (by rfl) (by rfl) (by (repeat' (first | exact True.intro | exact rfl | refine And.intro ?_ ?_ | (simp [AV.ren, AV.rens, AObj.ren, Ent.ren, AV.inn, AV.inns, AObj.inn, *]; done)))) (by (repeat' (first | exact True.intro | exact rfl | refine And.intro ?_ ?_ | (simp [AV.ren, AV.rens, AObj.ren, Ent.ren, AV.inn, AV.inns, AObj.inn, *]; done)))) ?_)
    refine AW.loop (fun u fr hp => ∃ i : Nat, u = c.orphans.length - i ∧ i ≤ c.orphans.length ∧ fr = [(2, .sl 4 0 i none), (10, .sl 3 0 c.orphans.length none), (11, .int .i64 (c.orphans.length : Int)), (12, .int .i64 (i : Int))] ∧ hp = [c.varE true 1 2 3, c.mapE true, c.wayE true, c.orpE true, ⟨32, false, none, .row (rowH (ids.take i))⟩]) c.orphans.length ?_ ?_
    · exact ⟨0, by omega, by omega, rfl, rfl⟩
    · rintro u fr hp ⟨i, rfl, hi, rfl, rfl⟩ -
      refine AW.post ?_
      unfold Ch.varE Ch.mapE Ch.wayE Ch.orpE
      refine ev_sound tokT (keep := fun _ => true) ?_
      (conv => whnf)
      by_cases hlt : i < c.orphans.length
      case neg =>
        rw [decide_eq_false (show ¬ (i : Int) < (c.orphans.length : Int) by omega)]
        (conv => whnf)
        have hie : i = c.orphans.length := by omega
        subst hie
        rw [show ids.take c.orphans.length = ids by rw [← hil, List.take_length]]
        (refine Turned.of [0, 1, 2, 3, 4] [(2, .sl 4 0 c.orphans.length none)] [c.varE true 1 2 3, c.mapE true, c.wayE true, c.orpE true, ⟨32, false, none, .row (rowH ids)⟩] (by rfl) (by rfl) (by rfl) (by (repeat' (first | exact True.intro | exact rfl | refine And.intro ?_ ?_ | (simp [AV.ren, AV.rens, AObj.ren, Ent.ren, AV.inn, AV.inns, AObj.inn, *]; done)))) (by (repeat' (first | exact True.intro | exact rfl | refine And.intro ?_ ?_ | (simp [AV.ren, AV.rens, AObj.ren, Ent.ren, AV.inn, AV.inns, AObj.inn, *]; done)))) ?_)
        exact ⟨rfl, rfl⟩
      rw [decide_eq_true (show (i : Int) < (c.orphans.length : Int) by omega)]
      ((conv => whnf); (repeat (((refine And.intro (by omega) ?_); (conv => whnf)))))
      obtain ⟨o, ho⟩ : ∃ o, c.orphans[i]? = some o := ⟨_, List.getElem?_eq_getElem hlt⟩
      have hro : (rowO c.orphans)[0 + (i : Int).toNat]? = some (AV.ints .u8 32 o.1 :: o.2.segs) := by rw [Nat.zero_add, Int.toNat_natCast]; exact orp_at _ _ _ ho
      have htk : ids.take (i + 1) = ids.take i ++ [o.1] := by
        rw [List.take_add_one, ← hids]; simp [ho]
      have hsn := rowH_snoc (ids.take i) i o.1 (by rw [List.length_take]; omega)
      rw [← htk] at hsn
      rw [hro]
      ((conv => whnf); (repeat (((refine And.intro (by first | (simp; done) | (simp; omega) | (simp [roomMost]; omega)) ?_); (conv => whnf)))))
      rw [hsn, IntWalk.i64_in ((i : Int) + 1) (by omega)]
      (refine Turned.of [0, 1, 2, 3, 7] [(2, .sl 4 0 (i + 1) none), (10, .sl 3 0 c.orphans.length none), (11, .int .i64 (c.orphans.length : Int)), (12, .int .i64 ((i + 1 : Nat) : Int))] [c.varE true 1 2 3, c.mapE true, c.wayE true, c.orpE true, ⟨32, false, none, .row (rowH (ids.take (i + 1)))⟩] (by rfl) (by rfl) (by rfl) (by (repeat' (first | exact True.intro | exact rfl | refine And.intro ?_ ?_ | (simp [AV.ren, AV.rens, AObj.ren, Ent.ren, AV.inn, AV.inns, AObj.inn, *]; done)))) (by (repeat' (first | exact True.intro | exact rfl | refine And.intro ?_ ?_ | (simp [AV.ren, AV.rens, AObj.ren, Ent.ren, AV.inn, AV.inns, AObj.inn, *]; done)))) ?_)
      exact ⟨c.orphans.length - (i + 1), by omega, i + 1, rfl, by omega, rfl, rfl⟩
  rintro fr hp ⟨rfl, rfl⟩
  unfold Ch.varE Ch.mapE Ch.wayE Ch.orpE
  refine ev_sound tokT (keep := fun _ => true) ?_
  (conv => whnf)
  (refine Left.of [0, 1, 2, 3, 4] (.sl 4 0 c.orphans.length none) [c.varE true 1 2 3, c.mapE true, c.wayE true, c.orpE true, ⟨32, false, none, .row (rowH ids)⟩] (by rfl) (by rfl) (by rfl) (by (repeat' (first | exact True.intro | exact rfl | refine And.intro ?_ ?_ | (simp [AV.ren, AV.rens, AObj.ren, Ent.ren, AV.inn, AV.inns, AObj.inn, *]; done)))) (by rfl) (by (repeat' (first | exact True.intro | exact rfl | refine And.intro ?_ ?_ | (simp [AV.ren, AV.rens, AObj.ren, Ent.ren, AV.inn, AV.inns, AObj.inn, *]; done)))) ?_)
  exact ⟨rfl, rfl⟩
end Go.Aw
