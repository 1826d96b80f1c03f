/-
  Own work: parts of the proof: AwY AwZ.
-/
import Derived.Test.YtdababcblhbpeaaM2
import Derived.ChangeSame
import Derived.ChangeSlices
import Derived.Below

section
/-
  AwY: from a contract to what a law's row asks: what stood before the call stands as it stood. Own work of this session.
-/
set_option linter.unusedSimpArgs false
set_option linter.unusedVariables false
namespace Go.Aw
open Go.ChangeShapes Go.WideShapes

/-- what stood in the world stands as it stood -/
structure Old (w w' : World) : Prop where
  os : w'.os = w.os
  out : w'.output = w.output
  heap : ∀ i, i < w.heap.size → w'.heap[i]? = w.heap[i]?

section
variable {H : Type} {enc : TypeId × Value → H} {P : Program}

end
end Go.Aw
end

section
/-
  AwZ: a law whose first argument is a row of numbers: from contracts to what the row asks. Own work of this session.
-/
set_option linter.unusedVariables false
set_option linter.unusedSimpArgs false
namespace Go.Aw
open Go.ChangeShapes Go.WideShapes Go.RowKit

/-- a row of numbers, as an argument gives it -/
def RowOf (w : World) (k : IntKind) (v : Value) (zs : List Int) : Prop :=
  (v = .slice none 0 0 ∧ zs = []) ∨ ∃ (a : Addr) (len cap : Nat), v = .slice (some a) len cap ∧ len ≤ cap ∧ zs.length = cap ∧
    (∀ i, i < zs.length → w.cell? (a.add i) = some (.int k (zs.getD i 0)))

/-- a law that says true, the blocks of its arguments given -/
theorem law_given {P : Program} {f : FuncId} {args : List AV} {hp : Hp} {vs : List Value} (h : AC P f args hp fun r hp' => r = .bool true) {ρ : Nat → Loc} {w : World}
    (hg : ∀ (b : Nat) (e : Ent), hp[b]? = some e → e.ro = true ∧ e.par = none ∧ (ρ b).esz = e.esz ∧ ObjOk ρ hp.length w (ρ b) true e.o) (hv : VRs ρ hp.length args vs) :
    Calls P f vs.toArray w fun e w' => e = .returned (.bool true) ∧ Below w.heap.size w w' := by
  have hs : HSat ⟨w, fun i => i < w.heap.size, []⟩ ρ hp w := by
    refine ⟨fun i hi => hi, fun i hi => rfl, rfl, rfl, rfl, fun b e hb => (hg b e hb).2.2.1, fun b e hb => ?_, fun b e hb hr _ => ?_, fun b e p hb hp _ => ?_, fun b e hb _ _ hl => ?_, fun b b' e e' hb _ _ hr _ _ _ => ?_⟩
    · obtain ⟨h1, _, _, h4⟩ := hg b e hb
      rw [h1]; exact h4
    · rw [(hg b e hb).1] at hr; cases hr
    · rw [(hg b e hb).2.1] at hp; cases hp
    · exact (hg b e hb).2.2.2.lt hl
    · rw [(hg b e hb).1] at hr; cases hr
  unfold AC at h
  refine (h.2 _ _ w _ hs hv).mono ?_
  rintro e w' ⟨r, c, hp', ρ', rfl, rfl, k1, k2, k3⟩
  simp only [VR] at k1
  subst k1
  refine ⟨rfl, k2.os, k2.tape, k2.out, ?_, fun i hi => k2.old i hi⟩
  rcases Nat.eq_zero_or_pos w.heap.size with h0 | h0
  · omega
  · have := k2.size (w.heap.size - 1) (show _ < w.heap.size by omega)
    omega

/-- a row of numbers that came in: a slice of a block, or of none -/
theorem row_arg {w : World} {k : IntKind} {v : Value} {zs : List Int} (h : RowOf w k v zs) : ∃ (len : Nat) (l : Loc), len ≤ zs.length ∧ l.esz = 1 ∧ (∀ ρ n, ObjOk ρ n w l true (.ints k zs)) ∧
    ∀ (ρ : Nat → Loc) (n b : Nat), b < n → ρ b = l → VR ρ n (.sl b 0 len (some zs.length)) v := by
  rcases h with ⟨rfl, rfl⟩ | ⟨a, len, cap, rfl, hl, hz, hc⟩
  · refine ⟨0, ⟨0, 0, 0, 1⟩, by simp, rfl, fun ρ n => obj_dead (by simp [AObj.lv]), fun ρ n b hb hρ => ?_⟩
    simp only [VR]
    exact ⟨hb, none, 0, rfl, by omega, (fun q hq => by cases hq; rfl), .inl rfl⟩
  · by_cases h0 : zs = []
    · subst h0
      simp at hz
      subst hz
      have : len = 0 := by omega
      subst this
      refine ⟨0, ⟨0, 0, 0, 1⟩, by simp, rfl, fun ρ n => obj_dead (by simp [AObj.lv]), fun ρ n b hb hρ => ?_⟩
      simp only [VR]
      exact ⟨hb, some a, 0, rfl, by omega, (fun q hq => by cases hq; rfl), .inl rfl⟩
    · have hz0 : 0 < zs.length := by
        cases zs with
        | nil => exact absurd rfl h0
        | cons x r => simp
      have hc0 := hc 0 hz0
      have hspot : a.spot = none := by
        have h1 : w.cell? a = some (.int k (zs.getD 0 0)) := by simpa [Addr.add] using hc0
        cases hs : a.spot with
        | none => rfl
        | some s =>
          unfold World.cell? at h1
          split at h1
          · rw [hs] at h1; simp at h1
          · cases h1
      have haddr : a = ⟨a.block, a.off, none⟩ := by cases a with | mk b o s => simp at hspot; subst hspot; rfl
      have hadd : ∀ i, a.add i = ⟨a.block, a.off + i, none⟩ := by
        intro i
        rw [haddr]; exact addr_add _ _ _
      rw [hadd] at hc0
      obtain ⟨cells, ty, fz, hb⟩ : ∃ cells ty fz, w.heap[a.block]? = some (.cells cells ty fz) := by
        unfold World.cell? at hc0
        split at hc0
        · rename_i c t f hcc; exact ⟨c, t, f, hcc⟩
        · cases hc0
      have hcell : ∀ i, i < zs.length → cells[a.off + i]? = some (.int k (zs.getD i 0)) := by
        intro i hi
        have := hc i hi
        rw [hadd, cell_of hb] at this
        exact this
      have hsz : a.off + zs.length ≤ cells.size := by
        have := hcell (zs.length - 1) (by omega)
        have hlt : a.off + (zs.length - 1) < cells.size := by
          rcases Nat.lt_or_ge (a.off + (zs.length - 1)) cells.size with g | g
          · exact g
          · rw [Array.getElem?_eq_none g] at this; cases this
        omega
      refine ⟨len, ⟨a.block, a.off, cells.size, 1⟩, by omega, rfl, fun ρ n _ => ⟨rfl, cells, ty, fz, hb, rfl, fun h => (by cases h), hsz, hcell⟩, fun ρ n b hb' hρ => ?_⟩
      simp only [VR]
      refine ⟨hb', some a, cap, rfl, hl, (fun q hq => by cases hq; exact hz.symm), .inr ?_⟩
      rw [hρ]
      simp only [Nat.zero_mul, Nat.add_zero, Nat.mul_one, Nat.zero_add]
      exact ⟨by rw [haddr], by omega⟩

section
variable {H : Type} {enc : TypeId × Value → H} {P : Program}

theorem Old.cell {w w' : World} (h : Old w w') {a : Addr} {v : Value} (hc : w.cell? a = some v) : w'.cell? a = some v := by
  have hlt : a.block < w.heap.size := by
    rcases Nat.lt_or_ge a.block w.heap.size with g | g
    · exact g
    · simp [World.cell?, Array.getElem?_eq_none g] at hc
  simpa only [World.cell?, h.heap _ hlt] using hc

/-- a row of numbers is opened, and reads as it did where what stood stands -/
theorem open_ints_all {W : World} {r : Reach} {b0 : Nat} {t e : TypeId} {k : IntKind} {v : Value} {d : DataW H} {p : List MemPlace} (ht : P.underlying t = some (.slice e)) (he : P.underlying e = some (.int k)) (hc : P.cellsOf e = 1)
    (hval : Value.okWide P W r b0 t v) (h : DataW.Trod enc P W 0 (fun _ => true) true t v d p) :
    ∃ zs, RowOf W k v zs ∧ (∀ n ∈ zs, (Lit.int k n).wf = true) ∧ ∀ W', Old W W' → ∀ sp : Nat → Bool, (∀ q ∈ p, sp q.block = true) → DataW.Trod enc P W' 0 sp true t v d p := by
  obtain ⟨a0, l0, c0, rfl⟩ := okWide_slice ht hval
  obtain ⟨fuel, hf⟩ := h
  rcases open_ints ht he hc hf with ⟨h1, h2⟩ | ⟨a, len, cap, zs, h1, _, h3, h4, h5, h6, h7, h8⟩
  · simp [Value.cells] at h1
    obtain ⟨rfl, rfl, rfl⟩ := h1
    cases h2
    refine ⟨[], .inl ⟨rfl, rfl⟩, by simp, fun W' hW sp _ => ⟨1, ?_⟩⟩
    simp [DataW.trod, Value.cells, ht]
  · simp [Value.cells] at h1
    obtain ⟨rfl, rfl, rfl⟩ := h1
    simp only [Prod.mk.injEq] at h6
    obtain ⟨rfl, rfl⟩ := h6
    simp only [if_true] at h5
    refine ⟨zs, .inr ⟨a, _, _, rfl, h3, h5, h7⟩, h8, fun W' hW sp hsp => ⟨2, ?_⟩⟩
    have hz : zs.length = (if sp a.block then c0 else l0) := by
      by_cases h0 : zs.length = 0
      · split <;> omega
      · have : sp a.block = true := by
          have := hsp (.cell a.block a.off) (by simp [MemPlace.row]; omega)
          simpa [MemPlace.block] using this
        rw [this, if_pos rfl]; exact h5
    simpa [Value.cells] using shut_ints (enc := enc) (held := true) 0 ht he hc (Nat.zero_le _) h3 h4 hz (fun i hi => hW.cell (h7 i hi)) h8
end
end Go.Aw
end
