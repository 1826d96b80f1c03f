/-
  AwY: from a contract to what a law's row asks: what stood before the call stands as it stood. Own work of this session.
-/
import Derived.Test.YtdababcblhbpeaaAwN
import Derived.ChangeSame
set_option linter.unusedSimpArgs false
set_option linter.unusedVariables false
namespace Go.Aw
open Go.ChangeShapes Go.WideShapes

/-- what stood in the world stands as it stood -/
structure Old (w w' : World) : Prop where
  os : w'.os = w.os
  out : w'.output = w.output
  heap : ∀ i, i < w.heap.size → w'.heap[i]? = w.heap[i]?

theorem Old.kept {w w' : World} (h : Old w w') (may : MemPlace → Prop) : w.keptBut w' may := by
  refine ⟨h.os, h.out, fun i hi => ?_⟩
  rw [h.heap i hi]
  have hg : w.heap[i]? = some w.heap[i] := by simp [hi]
  rw [hg]
  cases hx : w.heap[i] with
  | cells c t fr => exact ⟨rfl, rfl, rfl, fun _ _ => rfl⟩
  | map es clock => exact .inr ⟨rfl, rfl⟩
  | _ => rfl

theorem Old.frozen {w w' : World} (h : Old w w') {a : Addr} (ha : a.block < w.heap.size) : w'.frozen? a = w.frozen? a := by
  simp only [World.frozen?, h.heap _ ha]

/-- a law that asks for no memory and says true -/
theorem law_walk {P : Program} {f : FuncId} {args : List AV} {vs : List Value} (h : AC P f args [] fun r hp' => r = .bool true ∧ hp' = []) (hv : ∀ ρ, VRs ρ 0 args vs) (w : World) :
    Calls P f vs.toArray w fun e w' => e = .returned (.bool true) ∧ Old w w' := by
  unfold AC at h
  have hs : HSat ⟨w, fun i => i < w.heap.size⟩ (fun _ => ⟨0, 0, 0, 0⟩) [] w := by
    refine ⟨fun i hi => hi, fun i hi => rfl, rfl, rfl, rfl, ?_, ?_, ?_, ?_, ?_, ?_⟩ <;> (intros; simp_all)
  refine (h.2 _ _ w vs hs (hv _)).mono ?_
  rintro e w' ⟨r, v, hp', ρ', rfl, ⟨rfl, rfl⟩, k1, k2, k3⟩
  simp only [VR] at k1
  subst k1
  exact ⟨rfl, k2.os, k2.out, fun i hi => k2.old i hi⟩

section
variable {H : Type} {enc : TypeId × Value → H} {P : Program}

/-- the row's answer where the arguments read as they did -/
theorem post_of_old {f : Func} {s : ChangeSpec} {apart fresh handsOn again : Bool} {W W' : World} {args : Array Value} {v : Value} {ds gs : List (DataW H)} {before pa pv : List MemPlace}
    (hW : DataW.Whole enc P f.params.toList s.vars apart W args.toList ds gs before)
    (hres : ∀ (b : Nat) (sp : Nat → Bool) (hd : Bool), DataW.TrodAll enc P W' b sp hd f.resultTypes.toList (v.resultList f.resultTypes.size) (s.fn H (ds ++ gs)).results [])
    (hargs : ∀ sp : Nat → Bool, (∀ p ∈ before, sp p.block = true) → DataW.TrodAll enc P W' 0 sp true f.params.toList args.toList (s.fn H (ds ++ gs)).args pa)
    (hvars : ∀ sp : Nat → Bool, (∀ p ∈ before, sp p.block = true) → DataW.TrodVars enc P W' sp s.vars (s.fn H (ds ++ gs)).vars pv)
    (hps : before = pa ++ pv) (hold : Old W W')
    (hok : ∀ (j : Nat) (t : TypeId) (r : Value), f.resultTypes[j]? = some t → (v.resultList f.resultTypes.size)[j]? = some r → Value.okWide P W' .any 0 t r) :
    s.post enc P f apart fresh handsOn again W args v W' := by
  have hlt := fun p hp => hW.lt p hp
  refine ⟨ds, gs, before, [], pa, pv, hW, hres _ _ _, hargs _ (fun p hp => decide_eq_true (hlt p hp)), hvars _ (fun p hp => decide_eq_true (hlt p hp)), ?_, fun _ => ?_⟩
  · exact World.keptBut_mono (fun p hp => ⟨hp, by rw [hps, List.mem_append] at hp; exact .inr hp⟩) (hold.kept (· ∈ before))
  · obtain ⟨_, _, _, _, _, hz, hn⟩ := hW
    refine ⟨hok, _, _, ([] ++ pa) ++ pv, ⟨[] ++ pa, pv, trodAll_append (hargs _ (fun _ _ => rfl)) (hres _ _ _), hvars _ (fun _ _ => rfl), rfl, fun b off hp => ?_, fun ha => ?_⟩, fun p hp _ => ?_⟩
    · have hb : MemPlace.cell b off ∈ before := by rw [hps]; simpa using hp
      rw [hold.frozen (hlt _ hb)]
      exact hz b off hb
    · have := hn ha
      rw [hps] at this
      simpa using this
    · rw [hps]; simpa using hp
end
end Go.Aw
