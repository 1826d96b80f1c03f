/-
  AwZm: a law whose argument is a row of moulds: from contracts to what the row asks. Own work.
-/
import Derived.Test.YtdababcblhbpeaaM8
import Derived.Test.YtdababcblhbpeaaAwCh18
import Derived.Deep.Slices
import Derived.ChangeSame
set_option linter.unusedVariables false
set_option linter.unusedSimpArgs false
namespace Go.Aw
open Go.ChangeShapes Go.WideShapes Go.RowKit Go.Deep

/-- a row of moulds, as an argument gives it -/
def RowOfM (w : World) (v : Value) (ml : List Md) : Prop :=
  (v = .slice none 0 0 ∧ ml = []) ∨ ∃ (a : Addr) (len cap : Nat), v = .slice (some a) len cap ∧ len ≤ cap ∧ ml.length = cap ∧
    (∀ i m, ml[i]? = some m → w.cell? (a.add (i * 2)) = some (.int .i64 m.up) ∧ w.cell? ((a.add (i * 2)).add 1) = some (.int .i64 m.work))
theorem row_argM {w : World} {v : Value} {ml : List Md} (h : RowOfM w v ml) : ∃ (len : Nat) (l : Loc), len ≤ ml.length ∧ l.esz = 2 ∧ (∀ ρ n, ObjOk ρ n w l true (.row (rowMd ml))) ∧
    ∀ (ρ : Nat → Loc) (n b : Nat), b < n → ρ b = l → VR ρ n (.sl b 0 len (some ml.length)) v := by
  rcases h with ⟨rfl, rfl⟩ | ⟨a, len, cap, rfl, hl, hz, hc⟩
  · refine ⟨0, ⟨0, 0, 0, 2⟩, by simp, rfl, fun ρ n => obj_dead (by simp [AObj.lv, rowMd]), fun ρ n b hb hρ => ?_⟩
    simp only [VR]
    exact ⟨hb, none, 0, rfl, by omega, (fun q hq => by cases hq; rfl), .inl rfl⟩
  · by_cases h0 : ml = []
    · subst h0
      simp at hz
      subst hz
      have : len = 0 := by omega
      subst this
      refine ⟨0, ⟨0, 0, 0, 2⟩, by simp, rfl, fun ρ n => obj_dead (by simp [AObj.lv, rowMd]), fun ρ n b hb hρ => ?_⟩
      simp only [VR]
      exact ⟨hb, some a, 0, rfl, by omega, (fun q hq => by cases hq; rfl), .inl rfl⟩
    · have hz0 : 0 < ml.length := by
        cases ml with
        | nil => exact absurd rfl h0
        | cons x r => simp
      have hc0 := (hc 0 _ (List.getElem?_eq_getElem hz0)).1
      have hspot : a.spot = none := by
        have h1 : w.cell? a = some (.int .i64 (ml[0]).up) := by simpa [Addr.add] using hc0
        cases hs : a.spot with
        | none => rfl
        | some s =>
          unfold World.cell? at h1
          split at h1
          · rw [hs] at h1; simp at h1
          · cases h1
      have haddr : a = ⟨a.block, a.off, none⟩ := by cases a with | mk b o s => simp at hspot; subst hspot; rfl
      have hadd : ∀ i, a.add i = ⟨a.block, a.off + i, none⟩ := by
        intro i
        rw [haddr]; exact addr_add _ _ _
      rw [hadd] at hc0
      obtain ⟨cells, ty, fz, hb⟩ : ∃ cells ty fz, w.heap[a.block]? = some (.cells cells ty fz) := by
        unfold World.cell? at hc0
        split at hc0
        · rename_i c t f hcc; exact ⟨c, t, f, hcc⟩
        · cases hc0
      have hcell : ∀ i m, ml[i]? = some m → cells[a.off + i * 2]? = some (.int .i64 m.up) ∧ cells[a.off + i * 2 + 1]? = some (.int .i64 m.work) := by
        intro i m hi
        obtain ⟨h1, h2⟩ := hc i m hi
        rw [hadd] at h1 h2
        rw [addr_add] at h2
        rw [cell_of hb] at h1 h2
        exact ⟨h1, h2⟩
      have hsz : a.off + ml.length * 2 ≤ cells.size := by
        have := (hcell (ml.length - 1) _ (List.getElem?_eq_getElem (by omega))).2
        have hlt : a.off + (ml.length - 1) * 2 + 1 < cells.size := by
          rcases Nat.lt_or_ge (a.off + (ml.length - 1) * 2 + 1) cells.size with g | g
          · exact g
          · rw [Array.getElem?_eq_none g] at this; cases this
        omega
      refine ⟨len, ⟨a.block, a.off, cells.size, 2⟩, by omega, rfl, fun ρ n _ => ⟨cells, ty, fz, hb, rfl, fun h => (by cases h), by rw [rowMd_length]; exact hsz, ?_⟩, fun ρ n b hb' hρ => ?_⟩
      · intro i x hx
        simp only [rowMd, List.getElem?_map, Option.map_eq_some_iff] at hx
        obtain ⟨m, hm, rfl⟩ := hx
        obtain ⟨h1, h2⟩ := hcell i m hm
        refine ⟨rfl, ?_⟩
        simp only [CAt]
        refine ⟨⟨_, h1, rfl, rfl⟩, ⟨_, h2, rfl, rfl⟩, trivial⟩
      · simp only [VR]
        refine ⟨hb', some a, cap, rfl, hl, (fun q hq => by cases hq; exact hz.symm), .inr ?_⟩
        rw [hρ]
        simp only [Nat.zero_mul, Nat.add_zero, Nat.zero_add]
        exact ⟨by rw [haddr], by omega⟩
section
variable {H : Type} {enc : TypeId × Value → H} {P : Program}
theorem open_moulds {W : World} {r : Reach} {b0 : Nat} {t e : TypeId} {f0 f1 : Field} {v : Value} {d : DataW H} {p : List MemPlace} (ht : P.underlying t = some (.slice e)) (he : P.underlying e = some (.struct #[f0, f1])) (hc : P.cellsOf e = 2)
    (h0 : P.underlying f0.type = some (.int .i64)) (h1 : P.underlying f1.type = some (.int .i64)) (c0 : P.cellsOf f0.type = 1) (c1 : P.cellsOf f1.type = 1) (o0 : f0.offset = 0) (o1 : f1.offset = 1)
    (hval : Value.okWide P W r b0 t v) (h : DataW.Trod enc P W 0 (fun _ => true) true t v d p) : ∃ ml, RowOfM W v ml := by
  obtain ⟨a0, l0, q0, rfl⟩ := okWide_slice ht hval
  obtain ⟨fuel, hf⟩ := h
  rcases open_slice ht hf with ⟨g1, g2⟩ | ⟨a, len, cap, m, n, D, Pl, g1, _, g3, g4, g5, g6, g7⟩
  · simp [Value.cells] at g1
    obtain ⟨rfl, rfl, rfl⟩ := g1
    exact ⟨[], .inl ⟨rfl, rfl⟩⟩
  · simp [Value.cells] at g1
    obtain ⟨rfl, rfl, rfl⟩ := g1
    simp only [if_true] at g5
    subst g5
    have each : ∀ i, i < m → ∃ x : Md, W.cell? (a.add (i * 2)) = some (.int .i64 x.up) ∧ W.cell? ((a.add (i * 2)).add 1) = some (.int .i64 x.work) := by
      intro i hi
      obtain ⟨cs', k1, k2⟩ := g7 i hi
      rw [hc] at k1
      unfold World.cells? at k1
      simp only [Nat.zero_le, if_true] at k1
      obtain ⟨y0, y1, n', _, kl, k3, k4⟩ := trod_struct2 he k2
      rw [hc] at kl
      have m0 := mapM_some_get k1 0 0 rfl
      have m1 := mapM_some_get k1 1 1 rfl
      match cs', kl with
      | [u, w], _ =>
        simp only [List.getElem?_cons_zero, List.getElem?_cons_succ] at m0 m1
        rw [o0, c0] at k3
        rw [o1, c1] at k4
        simp only [List.drop_zero, List.take_succ_cons, List.take_zero, List.drop_succ_cons] at k3 k4
        obtain ⟨n0, e0, _⟩ := DataW.trod_int h0 k3
        obtain ⟨n1, e1, _⟩ := DataW.trod_int h1 k4
        simp only [List.cons.injEq, and_true] at e0 e1
        subst e0 e1
        exact ⟨⟨n0, n1⟩, by simpa [Addr.add] using m0, m1⟩
    refine ⟨(List.range m).map fun i => if hi : i < m then (each i hi).choose else default, .inr ⟨a, _, _, rfl, g3, by simp, ?_⟩⟩
    intro i x hx
    simp only [List.getElem?_map, Option.map_eq_some_iff, List.getElem?_range'] at hx
    obtain ⟨j, hj, rfl⟩ := hx
    have hj2 := List.getElem?_eq_some_iff.1 hj
    obtain ⟨hlt, hje⟩ := hj2
    simp at hje hlt
    subst hje
    rw [dif_pos hlt]
    exact (each i hlt).choose_spec
end
end Go.Aw
