/-
  Own work: parts of the proof: AwY AwZ.
-/
import Derived.Test.YtdababcblhbpeaaM2
import Derived.ChangeSame
import Derived.ChangeSlices
import Derived.Below

section
/-
  AwY: from a contract to what a law's row asks: what stood before the call stands as it stood. Own work of this session.
-/
set_option linter.unusedSimpArgs false
set_option linter.unusedVariables false
namespace Go.Aw
open Go.ChangeShapes Go.WideShapes

/-- what stood in the world stands as it stood -/
structure Old (w w' : World) : Prop where
  os : w'.os = w.os
  out : w'.output = w.output
  heap : ∀ i, i < w.heap.size → w'.heap[i]? = w.heap[i]?

theorem Old.kept {w w' : World} (h : Old w w') (may : MemPlace → Prop) : w.keptBut w' may := by
  refine ⟨h.os, h.out, fun i hi => ?_⟩
  rw [h.heap i hi]
  have hg : w.heap[i]? = some w.heap[i] := by simp [hi]
  rw [hg]
  cases hx : w.heap[i] with
  | cells c t fr => exact ⟨rfl, rfl, rfl, fun _ _ => rfl⟩
  | map es clock => exact .inr ⟨rfl, rfl⟩
  | _ => rfl

theorem Old.frozen {w w' : World} (h : Old w w') {a : Addr} (ha : a.block < w.heap.size) : w'.frozen? a = w.frozen? a := by
  simp only [World.frozen?, h.heap _ ha]

/-- a law that asks for no memory and says true -/
theorem law_walk {P : Program} {f : FuncId} {args : List AV} {vs : List Value} (h : AC P f args [] fun r hp' => r = .bool true ∧ hp' = []) (hv : ∀ ρ, VRs ρ 0 args vs) (w : World) :
    Calls P f vs.toArray w fun e w' => e = .returned (.bool true) ∧ Old w w' := by
  unfold AC at h
  have hs : HSat ⟨w, fun i => i < w.heap.size, []⟩ (fun _ => ⟨0, 0, 0, 0⟩) [] w := by
    refine ⟨fun i hi => hi, fun i hi => rfl, rfl, rfl, rfl, ?_, ?_, ?_, ?_, ?_, ?_⟩ <;> (intros; simp_all)
  refine (h.2 _ _ w vs hs (hv _)).mono ?_
  rintro e w' ⟨r, v, hp', ρ', rfl, ⟨rfl, rfl⟩, k1, k2, k3⟩
  simp only [VR] at k1
  subst k1
  exact ⟨rfl, k2.os, k2.out, fun i hi => k2.old i hi⟩

section
variable {H : Type} {enc : TypeId × Value → H} {P : Program}

/-- the row's answer where the arguments read as they did -/
theorem post_of_old {f : Func} {s : ChangeSpec} {apart fresh handsOn again : Bool} {W W' : World} {args : Array Value} {v : Value} {ds gs : List (DataW H)} {before pa pv : List MemPlace}
    (hW : DataW.Whole enc P f.params.toList s.vars apart W args.toList ds gs before)
    (hres : ∀ (b : Nat) (sp : Nat → Bool) (hd : Bool), DataW.TrodAll enc P W' b sp hd f.resultTypes.toList (v.resultList f.resultTypes.size) (s.fn H (ds ++ gs)).results [])
    (hargs : ∀ sp : Nat → Bool, (∀ p ∈ before, sp p.block = true) → DataW.TrodAll enc P W' 0 sp true f.params.toList args.toList (s.fn H (ds ++ gs)).args pa)
    (hvars : ∀ sp : Nat → Bool, (∀ p ∈ before, sp p.block = true) → DataW.TrodVars enc P W' sp s.vars (s.fn H (ds ++ gs)).vars pv)
    (hps : before = pa ++ pv) (hold : Old W W')
    (hok : ∀ (j : Nat) (t : TypeId) (r : Value), f.resultTypes[j]? = some t → (v.resultList f.resultTypes.size)[j]? = some r → Value.okWide P W' .any 0 t r) :
    s.post enc P f apart fresh handsOn again W args v W' := by
  have hlt := fun p hp => hW.lt p hp
  refine ⟨ds, gs, before, [], pa, pv, hW, hres _ _ _, hargs _ (fun p hp => decide_eq_true (hlt p hp)), hvars _ (fun p hp => decide_eq_true (hlt p hp)), ?_, fun _ => ?_⟩
  · exact World.keptBut_mono (fun p hp => ⟨hp, by rw [hps, List.mem_append] at hp; exact .inr hp⟩) (hold.kept (· ∈ before))
  · obtain ⟨_, _, _, _, _, hz, hn⟩ := hW
    refine ⟨hok, _, _, ([] ++ pa) ++ pv, ⟨[] ++ pa, pv, trodAll_append (hargs _ (fun _ _ => rfl)) (hres _ _ _), hvars _ (fun _ _ => rfl), rfl, fun b off hp => ?_, fun ha => ?_⟩, fun p hp _ => ?_⟩
    · have hb : MemPlace.cell b off ∈ before := by rw [hps]; simpa using hp
      rw [hold.frozen (hlt _ hb)]
      exact hz b off hb
    · have := hn ha
      rw [hps] at this
      simpa using this
    · rw [hps]; simpa using hp
end
end Go.Aw
end

section
/-
  AwZ: a law whose first argument is a row of numbers: from contracts to what the row asks. Own work of this session.
-/
set_option linter.unusedVariables false
set_option linter.unusedSimpArgs false
namespace Go.Aw
open Go.ChangeShapes Go.WideShapes Go.RowKit

/-- a row of numbers, as an argument gives it -/
def RowOf (w : World) (k : IntKind) (v : Value) (zs : List Int) : Prop :=
  (v = .slice none 0 0 ∧ zs = []) ∨ ∃ (a : Addr) (len cap : Nat), v = .slice (some a) len cap ∧ len ≤ cap ∧ zs.length = cap ∧
    (∀ i, i < zs.length → w.cell? (a.add i) = some (.int k (zs.getD i 0)))

/-- a law that says true, the blocks of its arguments given -/
theorem law_given {P : Program} {f : FuncId} {args : List AV} {hp : Hp} {vs : List Value} (h : AC P f args hp fun r hp' => r = .bool true) {ρ : Nat → Loc} {w : World}
    (hg : ∀ (b : Nat) (e : Ent), hp[b]? = some e → e.ro = true ∧ e.par = none ∧ (ρ b).esz = e.esz ∧ ObjOk ρ hp.length w (ρ b) true e.o) (hv : VRs ρ hp.length args vs) :
    Calls P f vs.toArray w fun e w' => e = .returned (.bool true) ∧ Below w.heap.size w w' := by
  have hs : HSat ⟨w, fun i => i < w.heap.size, []⟩ ρ hp w := by
    refine ⟨fun i hi => hi, fun i hi => rfl, rfl, rfl, rfl, fun b e hb => (hg b e hb).2.2.1, fun b e hb => ?_, fun b e hb hr _ => ?_, fun b e p hb hp _ => ?_, fun b e hb _ _ hl => ?_, fun b b' e e' hb _ _ hr _ _ _ => ?_⟩
    · obtain ⟨h1, _, _, h4⟩ := hg b e hb
      rw [h1]; exact h4
    · rw [(hg b e hb).1] at hr; cases hr
    · rw [(hg b e hb).2.1] at hp; cases hp
    · exact (hg b e hb).2.2.2.lt hl
    · rw [(hg b e hb).1] at hr; cases hr
  unfold AC at h
  refine (h.2 _ _ w _ hs hv).mono ?_
  rintro e w' ⟨r, c, hp', ρ', rfl, rfl, k1, k2, k3⟩
  simp only [VR] at k1
  subst k1
  refine ⟨rfl, k2.os, k2.tape, k2.out, ?_, fun i hi => k2.old i hi⟩
  rcases Nat.eq_zero_or_pos w.heap.size with h0 | h0
  · omega
  · have := k2.size (w.heap.size - 1) (show _ < w.heap.size by omega)
    omega

/-- a row of numbers that came in: a slice of a block, or of none -/
theorem row_arg {w : World} {k : IntKind} {v : Value} {zs : List Int} (h : RowOf w k v zs) : ∃ (len : Nat) (l : Loc), len ≤ zs.length ∧ l.esz = 1 ∧ (∀ ρ n, ObjOk ρ n w l true (.ints k zs)) ∧
    ∀ (ρ : Nat → Loc) (n b : Nat), b < n → ρ b = l → VR ρ n (.sl b 0 len (some zs.length)) v := by
  rcases h with ⟨rfl, rfl⟩ | ⟨a, len, cap, rfl, hl, hz, hc⟩
  · refine ⟨0, ⟨0, 0, 0, 1⟩, by simp, rfl, fun ρ n => obj_dead (by simp [AObj.lv]), fun ρ n b hb hρ => ?_⟩
    simp only [VR]
    exact ⟨hb, none, 0, rfl, by omega, (fun q hq => by cases hq; rfl), .inl rfl⟩
  · by_cases h0 : zs = []
    · subst h0
      simp at hz
      subst hz
      have : len = 0 := by omega
      subst this
      refine ⟨0, ⟨0, 0, 0, 1⟩, by simp, rfl, fun ρ n => obj_dead (by simp [AObj.lv]), fun ρ n b hb hρ => ?_⟩
      simp only [VR]
      exact ⟨hb, some a, 0, rfl, by omega, (fun q hq => by cases hq; rfl), .inl rfl⟩
    · have hz0 : 0 < zs.length := by
        cases zs with
        | nil => exact absurd rfl h0
        | cons x r => simp
      have hc0 := hc 0 hz0
      have hspot : a.spot = none := by
        have h1 : w.cell? a = some (.int k (zs.getD 0 0)) := by simpa [Addr.add] using hc0
        cases hs : a.spot with
        | none => rfl
        | some s =>
          unfold World.cell? at h1
          split at h1
          · rw [hs] at h1; simp at h1
          · cases h1
      have haddr : a = ⟨a.block, a.off, none⟩ := by cases a with | mk b o s => simp at hspot; subst hspot; rfl
      have hadd : ∀ i, a.add i = ⟨a.block, a.off + i, none⟩ := by
        intro i
        rw [haddr]; exact addr_add _ _ _
      rw [hadd] at hc0
      obtain ⟨cells, ty, fz, hb⟩ : ∃ cells ty fz, w.heap[a.block]? = some (.cells cells ty fz) := by
        unfold World.cell? at hc0
        split at hc0
        · rename_i c t f hcc; exact ⟨c, t, f, hcc⟩
        · cases hc0
      have hcell : ∀ i, i < zs.length → cells[a.off + i]? = some (.int k (zs.getD i 0)) := by
        intro i hi
        have := hc i hi
        rw [hadd, cell_of hb] at this
        exact this
      have hsz : a.off + zs.length ≤ cells.size := by
        have := hcell (zs.length - 1) (by omega)
        have hlt : a.off + (zs.length - 1) < cells.size := by
          rcases Nat.lt_or_ge (a.off + (zs.length - 1)) cells.size with g | g
          · exact g
          · rw [Array.getElem?_eq_none g] at this; cases this
        omega
      refine ⟨len, ⟨a.block, a.off, cells.size, 1⟩, by omega, rfl, fun ρ n _ => ⟨rfl, cells, ty, fz, hb, rfl, fun h => (by cases h), hsz, hcell⟩, fun ρ n b hb' hρ => ?_⟩
      simp only [VR]
      refine ⟨hb', some a, cap, rfl, hl, (fun q hq => by cases hq; exact hz.symm), .inr ?_⟩
      rw [hρ]
      simp only [Nat.zero_mul, Nat.add_zero, Nat.mul_one, Nat.zero_add]
      exact ⟨by rw [haddr], by omega⟩

section
variable {H : Type} {enc : TypeId × Value → H} {P : Program}

theorem Old.cell {w w' : World} (h : Old w w') {a : Addr} {v : Value} (hc : w.cell? a = some v) : w'.cell? a = some v := by
  have hlt : a.block < w.heap.size := by
    rcases Nat.lt_or_ge a.block w.heap.size with g | g
    · exact g
    · simp [World.cell?, Array.getElem?_eq_none g] at hc
  simpa only [World.cell?, h.heap _ hlt] using hc

/-- a row of numbers is opened, and reads as it did where what stood stands -/
theorem open_ints_all {W : World} {r : Reach} {b0 : Nat} {t e : TypeId} {k : IntKind} {v : Value} {d : DataW H} {p : List MemPlace} (ht : P.underlying t = some (.slice e)) (he : P.underlying e = some (.int k)) (hc : P.cellsOf e = 1)
    (hval : Value.okWide P W r b0 t v) (h : DataW.Trod enc P W 0 (fun _ => true) true t v d p) :
    ∃ zs, RowOf W k v zs ∧ (∀ n ∈ zs, (Lit.int k n).wf = true) ∧ ∀ W', Old W W' → ∀ sp : Nat → Bool, (∀ q ∈ p, sp q.block = true) → DataW.Trod enc P W' 0 sp true t v d p := by
  obtain ⟨a0, l0, c0, rfl⟩ := okWide_slice ht hval
  obtain ⟨fuel, hf⟩ := h
  rcases open_ints ht he hc hf with ⟨h1, h2⟩ | ⟨a, len, cap, zs, h1, _, h3, h4, h5, h6, h7, h8⟩
  · simp [Value.cells] at h1
    obtain ⟨rfl, rfl, rfl⟩ := h1
    cases h2
    refine ⟨[], .inl ⟨rfl, rfl⟩, by simp, fun W' hW sp _ => ⟨1, ?_⟩⟩
    simp [DataW.trod, Value.cells, ht]
  · simp [Value.cells] at h1
    obtain ⟨rfl, rfl, rfl⟩ := h1
    simp only [Prod.mk.injEq] at h6
    obtain ⟨rfl, rfl⟩ := h6
    simp only [if_true] at h5
    refine ⟨zs, .inr ⟨a, _, _, rfl, h3, h5, h7⟩, h8, fun W' hW sp hsp => ⟨2, ?_⟩⟩
    have hz : zs.length = (if sp a.block then c0 else l0) := by
      by_cases h0 : zs.length = 0
      · split <;> omega
      · have : sp a.block = true := by
          have := hsp (.cell a.block a.off) (by simp [MemPlace.row]; omega)
          simpa [MemPlace.block] using this
        rw [this, if_pos rfl]; exact h5
    simpa [Value.cells] using shut_ints (enc := enc) (held := true) 0 ht he hc (Nat.zero_le _) h3 h4 hz (fun i hi => hW.cell (h7 i hi)) h8
end
end Go.Aw
end
