/-
  AwE: loads and stores. Own work of this session.
-/
import Derived.Test.YtdababcblhbpeaaAwD
set_option linter.unusedVariables false
set_option linter.unusedSimpArgs false
namespace Go.Aw

theorem cell_of {w : World} {b o : Nat} {cells : Array Value} {ty : TypeId} {fz : Nat × Nat} (h : w.heap[b]? = some (.cells cells ty fz)) : w.cell? ⟨b, o, none⟩ = cells[o]? := by
  simp [World.cell?, h]

theorem frozen_of {w : World} {b o : Nat} {cells : Array Value} {ty : TypeId} {fz : Nat × Nat} (h : w.heap[b]? = some (.cells cells ty fz)) (hf : fz.1 = fz.2 ∨ cells.size ≤ fz.1) (ho : o < cells.size) :
    w.frozen? ⟨b, o, none⟩ = false := by
  obtain ⟨lo, hi⟩ := fz
  simp only at hf
  simp only [World.frozen?, h]
  rcases hf with hf | hf
  · subst hf; simp; try omega
  · simp; omega

theorem addr_add (b o i : Nat) : (⟨b, o, none⟩ : Addr).add i = ⟨b, o + i, none⟩ := by
  unfold Addr.add; split <;> simp_all

/-- cells read one behind the other -/
theorem run_cells {P : Program} {w : World} {b o n : Nat} {cells : Array Value} {ty : TypeId} {fz : Nat × Nat} (h : w.heap[b]? = some (.cells cells ty fz)) (hn : o + n ≤ cells.size) :
    ∃ cs : List Value, (loadCells ⟨b, o, none⟩ n).run P w = .ok cs.toArray w ∧ cs.length = n ∧ ∀ j, j < n → cs[j]? = cells[o + j]? := by
  refine ⟨(List.range n).map fun j => (cells[o + j]?).getD undef, ?_, by simp, fun j hj => ?_⟩
  · exact run_loadCells (P := P) w _ n (fun j => (cells[o + j]?).getD undef) (fun j hj => by
      rw [addr_add, cell_of h]
      rw [Array.getElem?_eq_getElem (by omega)]; rfl)
  · simp [hj]
    rw [Array.getElem?_eq_getElem (by omega)]; rfl

section
variable {P : Program} {T : Tab} (hT : TOk P T) {w0 : Base} {w : World} {ρ : Nat → Loc} {hp : Hp} (hs : HSat w0 ρ hp w)

/-- what lies in a part of some cells, as a value -/
theorem agg_of {n : Nat} {b o sz : Nat} {cells : Array Value} {ty : TypeId} {fz : Nat × Nat} {s : List AV} {f : Nat → Option Value} (h : w.heap[b]? = some (.cells cells ty fz))
    (hsz : asz s = sz) (off : Nat) (hf : ∀ j, f j = cells[o + j]?) (hc : CAt ρ n f s off) (hb : o + off + sz ≤ cells.size) :
    ∃ cv, (do pure (Value.agg (← loadCells ⟨b, o + off, none⟩ sz))).run P w = .ok cv w ∧ VR ρ n (.agg s) cv := by
  obtain ⟨cs, h1, h2, h3⟩ := run_cells (P := P) h hb
  refine ⟨.agg cs.toArray, by simp [h1], ?_⟩
  simp only [VR]
  refine ⟨cs, rfl, ?_, by omega⟩
  refine CAt_shift off s 0 (fun j hj => ?_) (by simpa using hc)
  rw [Nat.zero_add, Nat.zero_add, h3 j (by omega), hf]
  congr 1; omega

include hT in
theorem load_in {t : TypeId} {i : TI} {n : Nat} {b o off j : Nat} {cells : Array Value} {ty : TypeId} {fz : Nat × Nat} {vs : List AV} {K : AV → Prop}
    (ht : T t = some i) (h : w.heap[b]? = some (.cells cells ty fz)) (hc : CAt ρ n (fun j => cells[o + j]?) vs 0) (hb : o + asz vs ≤ cells.size)
    (hk : match i.d.agg with
      | true => (match Nat.beq j 0 with | true => dropK vs off fun r => takeK r i.sz fun s => K (.agg s) | false => False)
      | false => loadSegK vs off j K) :
    ∃ v cv, K v ∧ (loadVar t ⟨b, o + off + j, none⟩).run P w = .ok cv w ∧ VR ρ n v cv := by
  cases hag : i.d.agg with
  | true =>
    simp only [hag] at hk
    split at hk
    · rename_i hj
      have hj' : j = 0 := Nat.eq_of_beq_eq_true hj
      subst hj'
      obtain ⟨a, r, h1, h2, h3⟩ := dropK_sound hk
      obtain ⟨s, c, h4, h5, h6⟩ := takeK_sound h3
      subst h1 h4
      rw [CAt_append, CAt_append] at hc
      simp only [asz_append] at hb
      obtain ⟨cv, g1, g2⟩ := agg_of (P := P) (ρ := ρ) (n := n) (o := o) h h5 off (fun j => rfl) (by rw [← h2]; simpa using hc.2.1) (by omega)
      refine ⟨_, cv, h6, ?_, g2⟩
      simp only [Sem.run_bind] at g1
      simp only [loadVar, Sem.run_bind, hT.agg ht w, hag, Result.andThen_ok, if_true, hT.size ht w, Nat.add_zero]
      exact g1
    · exact hk.elim
  | false =>
    simp only [hag] at hk
    obtain ⟨a, v, c, h1, h2, h3⟩ := loadSegK_sound hk
    subst h1
    rw [CAt_append] at hc
    simp only [asz_append, asz] at hb
    have hload : ∀ cv, cells[o + off + j]? = some cv → (loadVar t ⟨b, o + off + j, none⟩).run P w = .ok cv w := by
      intro cv hcv
      have hc' : w.cell? ⟨b, o + off + j, none⟩ = some cv := by rw [cell_of h]; exact hcv
      simp [loadVar, hT.agg ht w, hag, hc']
    rcases h3 with ⟨k, m, xs, rfl, hj, hK⟩ | ⟨hv, rfl, hK⟩
    · simp only [CAt, Nat.zero_add] at hc
      have := hc.2.1.2 j hj
      rw [h2, ← Nat.add_assoc] at this
      exact ⟨_, _, hK, hload _ this, by simp only [VR]⟩
    · rw [CAt_cons (isCell_not_ints hv)] at hc
      obtain ⟨cv, g1, g2, g3⟩ := hc.2.1
      simp only [Nat.zero_add] at g1
      rw [h2] at g1
      exact ⟨v, cv, hK, hload cv (by simpa using g1), g3⟩

include hT hs in
theorem evLoad_sound {t : TypeId} {a : AV} {ca : Value} {K : AV → Prop} (ha : VR ρ hp.length a ca) (h : evLoad T hp t a K) :
    ∃ v cv, K v ∧ (Instr.loadAt t ca).run P w = .ok cv w ∧ VR ρ hp.length v cv := by
  unfold evLoad at h
  split at h
  case h_2 => exact h.elim
  rename_i b x off j
  simp only [VR] at ha
  obtain ⟨hb, rfl⟩ := ha
  simp only [Instr.loadAt, Instr.sureAddr, Sem.run_bind, Sem.run_pure, Result.andThen_ok]
  split at h
  case h_2 => exact h.elim
  rename_i i ht
  obtain ⟨e, he, hK⟩ := entK_sound h
  clear h
  have hob := hs.obj b e he
  have hez := hs.esz b e he
  cases heo : e.o with
  | gone => rw [heo] at hK; exact hK.elim
  | ints k xs =>
    rw [heo] at hK hob
    simp only at hK
    split at hK
    · rename_i h1 h2 h3
      have h2' : off = 0 := Nat.eq_of_beq_eq_true h2
      have h3' : j = 0 := Nat.eq_of_beq_eq_true h3
      subst h2' h3'
      simp only [ObjOk] at hob
      obtain ⟨q1, cells, ty, fz, q2, q3, q4, q5, q6⟩ := hob (lv_ints hK.1)
      refine ⟨_, .int k (xs.getD x 0), hK.2, ?_, by simp only [VR]⟩
      · have hc : w.cell? ⟨(ρ b).blk, (ρ b).base + x * (ρ b).esz + 0 + 0, none⟩ = some (.int k (xs.getD x 0)) := by
          rw [cell_of q2, q1]; simpa using q6 x hK.1
        simp [loadVar, hT.agg ht w, h1] 
        simp at hc
        simp [hc]
    · exact hK.elim
  | var vs =>
    rw [heo] at hK hob
    simp only at hK
    split at hK
    case h_2 => exact hK.elim
    rename_i hx
    have hx' : x = 0 := Nat.eq_of_beq_eq_true hx
    subst hx'
    simp only [ObjOk] at hob
    obtain ⟨cells, ty, fz, q2, q3, q4, q5, q6, q7⟩ := hob
    simp only [Nat.zero_mul, Nat.add_zero]
    exact load_in hT ht q2 q7 (by omega) hK
  | row els =>
    rw [heo] at hK hob
    simp only at hK
    split at hK
    case h_2 => exact hK.elim
    rename_i vs hvs
    simp only [ObjOk] at hob
    obtain ⟨cells, ty, fz, q2, q3, q4, q5, q6⟩ := hob (lv_row (lt_of_ix hvs))
    obtain ⟨q7, q8⟩ := q6 x vs hvs
    have hlt : x < els.length := by
      rcases Nat.lt_or_ge x els.length with g | g
      · exact g
      · rw [List.getElem?_eq_none g] at hvs; cases hvs
    have hmul : (x + 1) * (ρ b).esz ≤ els.length * (ρ b).esz := Nat.mul_le_mul_right _ hlt
    rw [Nat.add_mul, Nat.one_mul] at hmul
    exact load_in hT ht q2 q8 (by omega) hK

/-! ### storing cells -/
theorem setCells_facts : ∀ (vs : List Value) (b o : Nat) (w : World) (cells : Array Value) (ty : TypeId) (fz : Nat × Nat), w.heap[b]? = some (.cells cells ty fz) → o + vs.length ≤ cells.size →
    ∃ cells', (w.setCells b o vs).heap[b]? = some (.cells cells' ty fz) ∧ cells'.size = cells.size ∧ (∀ i, i < o ∨ o + vs.length ≤ i → cells'[i]? = cells[i]?) ∧ (∀ i, i < vs.length → cells'[o + i]? = vs[i]?) ∧
      (∀ i, i ≠ b → (w.setCells b o vs).heap[i]? = w.heap[i]?) ∧ (w.setCells b o vs).heap.size = w.heap.size ∧ (w.setCells b o vs).tape = w.tape ∧ (w.setCells b o vs).os = w.os ∧
      (w.setCells b o vs).output = w.output ∧ (w.setCells b o vs).drawn = w.drawn
  | [], b, o, w, cells, ty, fz, h, hn => ⟨cells, h, rfl, fun i hi => rfl, fun i hi => absurd hi (by simp), fun i hi => rfl, rfl, rfl, rfl, rfl, rfl⟩
  | v :: vs, b, o, w, cells, ty, fz, h, hn => by
    simp only [List.length_cons] at hn
    have hb := heap_lt h
    have h1 : (w.setCell ⟨b, o, none⟩ v).heap[b]? = some (.cells (cells.setIfInBounds o v) ty fz) := by
      simp only [World.setCell, Array.getElem?_modify, h]
      simp
    obtain ⟨cells', g1, g2, g3, g4, g5, g6, g7, g8, g9, g10⟩ := setCells_facts vs b (o + 1) (w.setCell ⟨b, o, none⟩ v) _ ty fz h1 (by simp; omega)
    refine ⟨cells', g1, by rw [g2]; simp, fun i hi => ?_, fun i hi => ?_, fun i hi => ?_, ?_, ?_, ?_, ?_, ?_⟩
    · simp only [List.length_cons] at hi
      rw [g3 i (by omega), Array.getElem?_setIfInBounds_ne (by omega)]
    · simp only [List.length_cons] at hi
      cases i with
      | zero =>
        rw [Nat.add_zero, g3 o (by omega), Array.getElem?_setIfInBounds_self_of_lt (by omega)]
        simp
      | succ i =>
        have := g4 i (by omega)
        rw [show o + (i + 1) = o + 1 + i by omega, this]; simp
    · rw [World.setCells, g5 i hi]
      simp only [World.setCell, Array.getElem?_modify]
      rw [if_neg (fun e => hi e.symm)]
    · rw [World.setCells, g6]; simp
    · rw [World.setCells, g7]; rfl
    · rw [World.setCells, g8]; rfl
    · rw [World.setCells, g9]; rfl
    · rw [World.setCells, g10]; rfl

/-- storing some cells into a block -/
theorem store_cells {b o : Nat} {cells : Array Value} {ty : TypeId} {fz : Nat × Nat} {vs : List Value} (h : w.heap[b]? = some (.cells cells ty fz)) (hf : fz.1 = fz.2 ∨ cells.size ≤ fz.1)
    (hn : o + vs.length ≤ cells.size) (h1 : ∀ v ∈ vs, v.oneCell' = true) : (storeCells ⟨b, o, none⟩ vs).run P w = .ok () (w.setCells b o vs) := by
  refine run_storeCells_cells (P := P) b o vs 0 w (fun j hj => ?_) (fun j hj => ?_) h1
  · rw [cell_of h, Array.getElem?_eq_getElem (by omega)]; rfl
  · exact frozen_of h hf (by omega)

/-- the cells that a value stands for -/
theorem CAt_of_cells {n : Nat} {v : AV} {cv : Value} (hv : VR ρ n v cv) (hc : v.isCell = true ∨ ∃ s, v = .agg s) :
    (cv.cells.toList.length = asz v.segs) ∧ CAt ρ n (fun i => cv.cells.toList[i]?) v.segs 0 ∧ ∀ u ∈ cv.cells.toList, u.oneCell' = true := by
  rcases hc with hc | ⟨s, rfl⟩
  · have h1 := VR_isCell hc hv
    have hseg : v.segs = [v] := by cases v <;> first | rfl | simp [AV.isCell] at hc
    have hcell : cv.cells = #[cv] := by cases cv <;> first | rfl | simp [Value.oneCell'] at h1
    rw [hseg, hcell]
    refine ⟨by simp [asz, AV.sz_one (isCell_not_ints hc)], ?_, by simp [h1]⟩
    rw [CAt_cons (isCell_not_ints hc)]
    exact ⟨⟨cv, by simp, h1, hv⟩, by simp only [CAt]⟩
  · simp only [VR] at hv
    obtain ⟨cs, rfl, h1, h2⟩ := hv
    refine ⟨by simpa [Value.cells, AV.segs] using h2, by simpa [Value.cells, AV.segs] using h1, ?_⟩
    intro u hu
    have hu' : u ∈ cs := hu
    obtain ⟨i, hi, rfl⟩ := List.mem_iff_getElem.1 hu'
    obtain ⟨c, g1, g2⟩ := CAt_cell s 0 i h1 (by omega) (by omega)
    rw [List.getElem?_eq_getElem hi] at g1
    cases g1
    exact g2

theorem CAt_unshift {n : Nat} {g : Nat → Option Value} (d : Nat) : ∀ (vs : List AV) (off : Nat), CAt ρ n (fun j => g (d + j)) vs off → CAt ρ n g vs (off + d)
  | [], off, hv => by simp only [CAt]
  | v :: vs, off, hv => by
    by_cases hi : ∃ k m xs, v = .ints k m xs
    · obtain ⟨k, m, xs, rfl⟩ := hi
      simp only [CAt] at hv ⊢
      refine ⟨⟨hv.1.1, fun j hj => ?_⟩, ?_⟩
      · have := hv.1.2 j hj
        rwa [show d + (off + j) = off + d + j by omega] at this
      · have := CAt_unshift d vs (off + m) hv.2
        rwa [show off + m + d = off + d + m by omega] at this
    · have hv' : ∀ k m xs, v ≠ .ints k m xs := fun k m xs e => hi ⟨k, m, xs, e⟩
      rw [CAt_cons hv'] at hv ⊢
      obtain ⟨⟨c, h1, h2⟩, h3⟩ := hv
      refine ⟨⟨c, by rwa [show d + off = off + d by omega] at h1, h2⟩, ?_⟩
      have := CAt_unshift d vs (off + 1) h3
      rwa [show off + 1 + d = off + d + 1 by omega] at this

/-- cells put into the midst of others -/
theorem CAt_put {n : Nat} {f g : Nat → Option Value} {h : Nat → Option Value} {a m c new : List AV} {off : Nat} (hc : CAt ρ n f (a ++ m ++ c) 0) (ha : asz a = off) (hm : asz m = asz new)
    (hn : CAt ρ n h new 0) (hg1 : ∀ j, j < off ∨ off + asz new ≤ j → g j = f j) (hg2 : ∀ j, j < asz new → g (off + j) = h j) : CAt ρ n g (a ++ new ++ c) 0 := by
  rw [CAt_append, CAt_append] at hc ⊢
  simp only [Nat.zero_add, asz_append] at hc ⊢
  refine ⟨⟨?_, ?_⟩, ?_⟩
  · exact CAt_congr a 0 (fun j _ h2 => hg1 j (by omega)) hc.1.1
  · have : CAt ρ n (fun j => g (off + j)) new 0 := CAt_congr new 0 (fun j _ h2 => hg2 j (by omega)) hn
    rw [ha]
    have := CAt_unshift (g := g) off new 0 this
    simpa using this
  · rw [← hm]
    refine CAt_congr c _ (fun j h1 _ => hg1 j (by omega)) hc.2

theorem store_in {i : TI} {n : Nat} {f : Nat → Option Value} {off j : Nat} {vs : List AV} {v : AV} {cv : Value} {K : List AV → Prop} (hc : CAt ρ n f vs 0) (hv : VR ρ n v cv)
    (hk : evStoreIn i vs off j v K) : ∃ vs', K vs' ∧ asz vs' = asz vs ∧ cv.cells.size = i.sz ∧ (∀ u ∈ cv.cells.toList, u.oneCell' = true) ∧ off + j + i.sz ≤ asz vs ∧
      ∀ g : Nat → Option Value, (∀ q, q < off + j ∨ off + j + i.sz ≤ q → g q = f q) → (∀ q, q < i.sz → g (off + j + q) = cv.cells.toList[q]?) → CAt ρ n g vs' 0 := by
  unfold evStoreIn at hk
  split at hk
  · split at hk
    case h_2 => exact hk.elim
    rename_i hj
    have hj' : j = 0 := Nat.eq_of_beq_eq_true hj
    subst hj'
    split at hk
    case h_2 => exact hk.elim
    rename_i s
    split at hk
    case h_2 => exact hk.elim
    rename_i hsz
    have hsz' : asz s = i.sz := Nat.eq_of_beq_eq_true hsz
    obtain ⟨a, m, c, h1, h2, h3, h4⟩ := putSegsK_sound hk
    subst h1
    obtain ⟨g1, g2, g3⟩ := CAt_of_cells hv (.inr ⟨s, rfl⟩)
    simp only [AV.segs] at g1 g2
    refine ⟨_, h4, by simp only [asz_append]; omega, by rw [← hsz', ← g1]; simp, g3, by simp only [asz_append]; omega, fun g q1 q2 => ?_⟩
    refine CAt_put (f := f) (h := fun i => cv.cells.toList[i]?) hc h2 h3 g2 (fun q hq => q1 q (by omega)) (fun q hq => ?_)
    have := q2 q (by omega)
    simpa using this
  · split at hk
    case h_2 => exact hk.elim
    rename_i hsz
    have hsz' : i.sz = 1 := Nat.eq_of_beq_eq_true hsz
    obtain ⟨a, u, c, h1, h2, h3⟩ := storeSegK_sound hk
    subst h1
    rcases h3 with ⟨k, m, xs, y, rfl, rfl, hj, hK⟩ | ⟨hu, hcell, rfl, hK⟩
    · simp only [VR] at hv
      subst hv
      refine ⟨_, hK, by simp [asz_append, asz, AV.sz], by rw [hsz']; rfl, by simp [Value.cells, Value.oneCell'], by simp only [asz_append, asz, AV.sz]; omega, fun g q1 q2 => ?_⟩
      rw [CAt_append] at hc ⊢
      simp only [CAt, Nat.zero_add, h2] at hc ⊢
      obtain ⟨c1, ⟨c2, c3⟩, c4⟩ := hc
      refine ⟨CAt_congr a 0 (fun q _ hq => q1 q (by omega)) c1, ⟨by simpa using c2, fun q hq => ?_⟩, CAt_congr c _ (fun q hq _ => q1 q (by omega)) c4⟩
      by_cases e : q = j
      · subst e
        have := q2 0 (by omega)
        simp only [Nat.add_zero, Value.cells] at this
        rw [this]
        simp [List.getD, List.getElem?_set_self (show q < xs.length by omega)]
      · rw [q1 _ (by omega), c3 q hq]
        simp [List.getD, List.getElem?_set_ne (fun h => e h.symm)]
    · obtain ⟨g1, g2, g3⟩ := CAt_of_cells hv (.inl hcell)
      have hseg : v.segs = [v] := by cases v <;> first | rfl | simp [AV.isCell] at hcell
      rw [hseg] at g1 g2
      have hs1 : asz [v] = 1 := by simp [asz, AV.sz_one (isCell_not_ints hcell)]
      rw [hs1] at g1
      refine ⟨_, hK, by simp [asz_append, asz, AV.sz_one (isCell_not_ints hcell), AV.sz_one hu], by rw [hsz']; simpa using g1, g3, by simp only [asz_append, asz, AV.sz_one hu]; omega, fun g q1 q2 => ?_⟩
      have hc' : CAt ρ n f (a ++ [u] ++ c) 0 := by simpa using hc
      have := CAt_put (ρ := ρ) (n := n) (f := f) (g := g) (h := fun i => cv.cells.toList[i]?) (new := [v]) hc' h2 (by rw [hs1]; simp [asz, AV.sz_one hu]) g2 (fun q hq => q1 q (by rw [hs1] at hq; omega)) (fun q hq => by
        have := q2 q (by rw [hs1] at hq; omega)
        simpa using this)
      simpa using this

include hT in
theorem run_storeVar_in {t : TypeId} {i : TI} {b o : Nat} {cells : Array Value} {ty : TypeId} {fz : Nat × Nat} {cv : Value} (ht : T t = some i) (h : w.heap[b]? = some (.cells cells ty fz))
    (hf : fz.1 = fz.2 ∨ cells.size ≤ fz.1) (hn : o + i.sz ≤ cells.size) (hsz : cv.cells.size = i.sz) (h1 : ∀ u ∈ cv.cells.toList, u.oneCell' = true) :
    (storeVar t ⟨b, o, none⟩ cv).run P w = .ok () (w.setCells b o cv.cells.toList) := by
  simp only [storeVar, Sem.run_bind, hT.size ht w, Result.andThen_ok]
  rw [if_neg (by simp [hsz])]
  exact store_cells h hf (by simpa [hsz] using hn) h1

include hT hs in
theorem evStore_sound {t : TypeId} {a v : AV} {ca cv : Value} {K : Hp → Prop} (ha : VR ρ hp.length a ca) (hv : VR ρ hp.length v cv) (h : evStore T hp t a v K) :
    ∃ hp' w', K hp' ∧ (Instr.storeAt t ca cv).run P w = .ok () w' ∧ HSat w0 ρ hp' w' ∧ hp'.length = hp.length := by
  unfold evStore at h
  split at h
  case h_2 => exact h.elim
  rename_i b x off j
  simp only [VR] at ha
  obtain ⟨hb, rfl⟩ := ha
  simp only [Instr.storeAt, Instr.sureAddr, Sem.run_bind, Sem.run_pure, Result.andThen_ok]
  split at h
  case h_2 => exact h.elim
  rename_i i ht
  obtain ⟨e, he, hK⟩ := entK_sound h
  clear h
  have hob := hs.obj b e he
  have hez := hs.esz b e he
  split at hK
  case h_2 => exact hK.elim
  rename_i hro
  rw [hro] at hob
  cases heo : e.o with
  | gone => rw [heo] at hK; exact hK.elim
  | ints k xs =>
    rw [heo] at hK hob
    simp only at hK
    split at hK
    case h_2 => exact hK.elim
    rename_i h1 h2 h3 h4
    have h2' : i.sz = 1 := Nat.eq_of_beq_eq_true h2
    have h3' : off = 0 := Nat.eq_of_beq_eq_true h3
    have h4' : j = 0 := Nat.eq_of_beq_eq_true h4
    subst h3' h4'
    split at hK
    case h_2 => exact hK.elim
    rename_i k' y
    split at hK
    case h_2 => exact hK.elim
    rename_i hk
    have hk' : k = k' := of_decide_eq_true hk
    subst hk'
    obtain ⟨hx, hK⟩ := hK
    obtain ⟨hlt, hK⟩ := setObjK_sound hK
    simp only [ObjOk] at hob
    obtain ⟨q1, cells, ty, fz, q2, q3, q4, q5, q6⟩ := hob (lv_ints hx)
    simp only [VR] at hv
    subst hv
    have hrun := run_storeVar_in (P := P) hT (o := (ρ b).base + x) (cv := .int k y) ht q2 (q4 trivial) (by omega) (by rw [h2']; rfl) (by simp [Value.cells, Value.oneCell'])
    obtain ⟨cells', g1, g2, g3, g4, g5, g6, g7, g8, g9, g10⟩ := setCells_facts [.int k y] (ρ b).blk ((ρ b).base + x) w cells ty fz q2 (by simp; omega)
    refine ⟨_, w.setCells (ρ b).blk ((ρ b).base + x) [.int k y], hK, ?_, ?_, by simp [dropV_length]⟩
    · rw [q1]; simpa [Value.cells] using hrun
    · refine hs.set he hro (by rw [heo]; exact lv_ints hx) _ g5 g6 g7 g8 g9 ?_
      simp only [ObjOk]
      refine fun _ => ⟨q1, cells', ty, fz, by simpa [Value.cells] using g1, by omega, fun _ => by rw [g2]; exact q4 trivial, by simp; omega, fun q hq => ?_⟩
      simp only [List.length_set] at hq
      by_cases e' : q = x
      · subst e'
        have := g4 0 (by simp)
        simp only [Nat.add_zero] at this
        rw [this]
        simp [List.getD, List.getElem?_set_self hq]
      · rw [g3 _ (by simp; omega), q6 q hq]
        simp [List.getD, List.getElem?_set_ne (fun h => e' h.symm)]
  | var vs =>
    rw [heo] at hK hob
    simp only at hK
    split at hK
    case h_2 => exact hK.elim
    rename_i hx
    have hx' : x = 0 := Nat.eq_of_beq_eq_true hx
    subst hx'
    simp only [ObjOk] at hob
    obtain ⟨cells, ty, fz, q2, q3, q4, q5, q6, q7⟩ := hob
    obtain ⟨vs', hK, r1, r2, r3, r4, r5⟩ := store_in q7 hv hK
    obtain ⟨hlt, hK⟩ := setObjK_sound hK
    have hrun := run_storeVar_in (P := P) hT (o := (ρ b).base + off + j) (cv := cv) ht q2 (q4 trivial) (by omega) r2 r3
    obtain ⟨cells', g1, g2, g3, g4, g5, g6, g7, g8, g9, g10⟩ := setCells_facts cv.cells.toList (ρ b).blk ((ρ b).base + off + j) w cells ty fz q2 (by simp [r2]; omega)
    refine ⟨_, w.setCells (ρ b).blk ((ρ b).base + off + j) cv.cells.toList, hK, ?_, ?_, by simp [dropV_length]⟩
    · simpa using hrun
    · refine hs.set he hro (by rw [heo]; rfl) _ g5 g6 g7 g8 g9 ?_
      simp only [ObjOk]
      refine ⟨cells', ty, fz, g1, by omega, fun _ => by rw [g2]; exact q4 trivial, by omega, by omega, ?_⟩
      refine r5 _ (fun q hq => ?_) (fun q hq => ?_)
      · rw [g3 _ (by simp [r2]; omega)]
      · rw [← g4 q (by simp [r2]; omega)]; congr 1; omega
  | row els =>
    rw [heo] at hK hob
    simp only at hK
    split at hK
    case h_2 => exact hK.elim
    rename_i vs hvs
    simp only [ObjOk] at hob
    obtain ⟨cells, ty, fz, q2, q3, q4, q5, q6⟩ := hob (lv_row (lt_of_ix hvs))
    obtain ⟨q7, q8⟩ := q6 x vs hvs
    have hlt : x < els.length := by
      rcases Nat.lt_or_ge x els.length with g | g
      · exact g
      · rw [List.getElem?_eq_none g] at hvs; cases hvs
    have hmul : (x + 1) * (ρ b).esz ≤ els.length * (ρ b).esz := Nat.mul_le_mul_right _ hlt
    rw [Nat.add_mul, Nat.one_mul] at hmul
    obtain ⟨vs', hK, r1, r2, r3, r4, r5⟩ := store_in q8 hv hK
    obtain ⟨_, hK⟩ := setObjK_sound hK
    have hrun := run_storeVar_in (P := P) hT (o := (ρ b).base + x * (ρ b).esz + off + j) (cv := cv) ht q2 (q4 trivial) (by omega) r2 r3
    obtain ⟨cells', g1, g2, g3, g4, g5, g6, g7, g8, g9, g10⟩ := setCells_facts cv.cells.toList (ρ b).blk ((ρ b).base + x * (ρ b).esz + off + j) w cells ty fz q2 (by simp [r2]; omega)
    refine ⟨_, w.setCells (ρ b).blk ((ρ b).base + x * (ρ b).esz + off + j) cv.cells.toList, hK, hrun, ?_, by simp [dropV_length]⟩
    refine hs.set he hro (by rw [heo]; exact lv_row hlt) _ g5 g6 g7 g8 g9 ?_
    simp only [ObjOk]
    refine fun _ => ⟨cells', ty, fz, g1, by omega, fun _ => by rw [g2]; exact q4 trivial, by simp; omega, fun y z hz => ?_⟩
    by_cases e' : y = x
    · subst e'
      rw [List.getElem?_set_self hlt] at hz
      cases hz
      refine ⟨by omega, ?_⟩
      refine r5 _ (fun q hq => ?_) (fun q hq => ?_)
      · rw [g3 _ (by simp [r2]; omega)]
      · rw [← g4 q (by simp [r2]; omega)]; congr 1; omega
    · rw [List.getElem?_set_ne (fun h => e' h.symm)] at hz
      obtain ⟨p1, p2⟩ := q6 y z hz
      refine ⟨p1, CAt_congr z 0 (fun q _ hq => ?_) p2⟩
      have hy : y < els.length := by
        rcases Nat.lt_or_ge y els.length with g | g
        · exact g
        · rw [List.getElem?_eq_none g] at hz; cases hz
      refine g3 _ ?_
      simp only [Array.length_toList, r2]
      rcases Nat.lt_or_ge y x with hyx | hyx
      · have : (y + 1) * (ρ b).esz ≤ x * (ρ b).esz := Nat.mul_le_mul_right _ hyx
        rw [Nat.add_mul, Nat.one_mul] at this
        omega
      · have : (x + 1) * (ρ b).esz ≤ y * (ρ b).esz := Nat.mul_le_mul_right _ (by omega)
        rw [Nat.add_mul, Nat.one_mul] at this
        omega
end
end Go.Aw
