/-
  AwG: places in arrays and slices, conversions, literals of structs and arrays. Own work of this session.
-/
import Derived.Test.YtdababcblhbpeaaAwF
set_option linter.unusedVariables false
set_option linter.unusedSimpArgs false
namespace Go.Aw
section
variable {P : Program} {T : Tab} (hT : TOk P T) {w0 : Base} {w : World} {ρ : Nat → Loc} {hp : Hp} (hs : HSat w0 ρ hp w)

include hT hs in
theorem evIndexAddr_sound {t : TypeId} {a i : AV} {ca ci : Value} {K : AV → Prop} (ha : VR ρ hp.length a ca) (hi : VR ρ hp.length i ci) (h : evIndexAddr T hp t a i K) :
    ∃ v cv, K v ∧ (Instr.indexAt t ca ci).run P w = .ok cv w ∧ VR ρ hp.length v cv := by
  unfold evIndexAddr at h
  split at h
  case h_2 => exact h.elim
  rename_i kq q
  simp only [VR] at hi
  subst hi
  split at h
  · rename_i b e off j
    split at h
    case h_2 => exact h.elim
    rename_i n el ht
    split at h
    case h_2 => exact h.elim
    rename_i ei hei
    split at h
    case h_2 => exact h.elim
    rename_i h1 h2
    have h1' := Nat.eq_of_beq_eq_true h1
    have h2' := Nat.eq_of_beq_eq_true h2
    subst h2'
    obtain ⟨q0, q1, hK⟩ := h
    simp only [VR] at ha
    obtain ⟨hb, rfl⟩ := ha
    refine ⟨_, .pointer (some ⟨(ρ b).blk, (ρ b).base + e * (ρ b).esz + off + q.toNat, none⟩), hK, ?_, by simp only [VR]; exact ⟨hb, trivial⟩⟩
    simp [Instr.indexAt, asIntOf, run_underlying (hT.u_array ht), Instr.sureAddr, q0, q1, hT.size hei w, h1', addr_add]
  · rename_i b off len cap
    split at h
    case h_2 => exact h.elim
    rename_i el ht
    split at h
    case h_2 => exact h.elim
    rename_i ei hei
    obtain ⟨en, hen, h⟩ := entK_sound h
    split at h
    case h_2 => exact h.elim
    rename_i hz
    have hz' := Nat.eq_of_beq_eq_true hz
    obtain ⟨q0, q1, hK⟩ := h
    simp only [VR] at ha
    obtain ⟨hb, ad, c, rfl, hlc, _, had⟩ := ha
    rcases had with rfl | ⟨rfl, _⟩
    · omega
    have hez := hs.esz b en hen
    refine ⟨_, .pointer (some ⟨(ρ b).blk, (ρ b).base + (off + q.toNat) * (ρ b).esz + 0 + 0, none⟩), hK, ?_, by simp only [VR]; exact ⟨hb, trivial⟩⟩
    simp [Instr.indexAt, asIntOf, run_underlying (hT.u_slice ht), q0, q1, hT.size hei w, hz', hez, addr_add, Nat.add_mul, Nat.add_assoc]
  · exact h.elim

include hT in
theorem evIndex_sound {n : Nat} {t : TypeId} {a i : AV} {ca ci : Value} {K : AV → Prop} (ha : VR ρ n a ca) (hi : VR ρ n i ci) (h : evIndex T t a i K) :
    ∃ v cv, K v ∧ (Instr.index t ca ci).run P w = .ok cv w ∧ VR ρ n v cv := by
  unfold evIndex at h
  split at h
  case h_2 => exact h.elim
  rename_i kq q
  simp only [VR] at hi
  subst hi
  split at h
  · rename_i l
    split at h
    case h_2 => exact h.elim
    rename_i ht
    obtain ⟨q0, q1, hK⟩ := h
    simp only [VR] at ha
    subst ha
    refine ⟨_, .int .u8 ((l.getD q.toNat 0).toNat : Int), hK, ?_, by simp only [VR]⟩
    have hlt : q.toNat < l.length := by omega
    have hg : (⟨l.toArray⟩ : ByteArray)[q.toNat]? = some (l.getD q.toNat 0) := by
      rw [getElem?_pos (⟨l.toArray⟩ : ByteArray) q.toNat (by simpa [ByteArray.size] using hlt)]
      simp [ByteArray.getElem_eq_getElem_data, List.getD, List.getElem?_eq_getElem hlt]
    simp [Instr.index, asIntOf, run_underlying (hT.u_str ht), q0, hg]
  · rename_i k m xs
    split at h
    case h_2 => exact h.elim
    rename_i m' el ht
    split at h
    case h_2 => exact h.elim
    rename_i ei hei
    split at h
    case h_2 => exact h.elim
    rename_i h1 h2 h3
    have h1' := Nat.eq_of_beq_eq_true h1
    have h3' := Nat.eq_of_beq_eq_true h3
    subst h3'
    obtain ⟨q0, q1, hK⟩ := h
    simp only [VR] at ha
    obtain ⟨cs, rfl, c1, c2⟩ := ha
    simp only [CAt, Nat.zero_add] at c1
    have hg := c1.1.2 q.toNat (by omega)
    refine ⟨_, .int k (xs.getD q.toNat 0), hK, ?_, by simp only [VR]⟩
    simp [Instr.index, asIntOf, run_underlying (hT.u_array ht), q0, q1, hT.size hei w, h1', part, hT.agg hei w, h2]
    rw [hg]; simp
  · exact h.elim

/-- the whole numbers that a slice (or a string) holds, cell by cell, read out of the world -/
theorem intsOf_sound {k : IntKind} {x : AV} {cx : Value} {K : List Int → Prop} (hs : HSat w0 ρ hp w) (hx : VR ρ hp.length x cx) (h : intsOf hp k x K) :
    ∃ xs, K xs ∧ ((cx = .slice none 0 0 ∧ xs = []) ∨ (∃ l : List UInt8, cx = .string ⟨l.toArray⟩ ∧ k = .u8 ∧ xs = bytesOfStr l) ∨
      (∃ ad c, cx = .slice (some ad) xs.length c ∧ ∀ j v, (xs.map (Value.int k))[j]? = some v → w.cell? (ad.add j) = some v)) := by
  unfold intsOf at h
  split at h
  · simp only [VR] at hx
    exact ⟨[], h, .inl ⟨hx.1, rfl⟩⟩
  · rename_i l
    split at h
    · simp only [VR] at hx
      exact ⟨_, h, .inr (.inl ⟨l, hx, rfl, rfl⟩)⟩
    · exact h.elim
  · rename_i b off len cap
    obtain ⟨e, he, h⟩ := entK_sound h
    split at h
    case h_2 => exact h.elim
    rename_i k' xs heo
    split at h
    case h_2 => exact h.elim
    rename_i hk
    have hk' := of_decide_eq_true hk
    subst hk'
    obtain ⟨hlen, hK⟩ := h
    have hob := hs.obj b e he
    rw [heo] at hob
    simp only [ObjOk] at hob
    simp only [VR] at hx
    obtain ⟨hb, ad, c, rfl, hlc, _, had⟩ := hx
    have hl : ((xs.drop off).take len).length = len := by simp; omega
    by_cases h0 : len = 0
    · subst h0
      simp only [List.take_zero] at hK
      cases ad with
      | none =>
        rcases had with rfl | ⟨hh, _⟩
        · exact ⟨_, hK, .inl ⟨rfl, rfl⟩⟩
        · cases hh
      | some ad => exact ⟨_, hK, .inr (.inr ⟨ad, c, rfl, fun j v hv => by simp at hv⟩)⟩
    obtain ⟨q1, cells, ty, fz, q2, q3, q4, q5, q6⟩ := hob (lv_ints (i := 0) (by omega))
    rcases had with rfl | ⟨rfl, _⟩
    · omega
    refine ⟨_, hK, .inr (.inr ⟨_, c, by rw [hl], fun j v hv => ?_⟩)⟩
    have hj : j < len := by
      rcases Nat.lt_or_ge j len with g | g
      · exact g
      · rw [List.getElem?_eq_none (by simp; omega)] at hv; cases hv
    rw [addr_add, cell_of q2, q1, Nat.mul_one, Nat.add_assoc, q6 (off + j) (by omega)]
    rw [List.getElem?_map, List.getElem?_take_of_lt hj, List.getElem?_drop] at hv
    rw [List.getElem?_eq_getElem (by omega)] at hv
    simp only [Option.map_some, Option.some.injEq] at hv
    rw [← hv]
    simp [List.getD, List.getElem?_eq_getElem (show off + j < xs.length by omega)]
  · exact h.elim

/-! ### literals -/
/-- some cells laid over others -/
def splice (cs : List Value) (off : Nat) (new : List Value) : List Value := cs.take off ++ new ++ cs.drop (off + new.length)

theorem splice_length {cs new : List Value} {off : Nat} (h : off + new.length ≤ cs.length) : (splice cs off new).length = cs.length := by simp [splice]; omega
theorem splice_out {cs new : List Value} {off j : Nat} (h : off + new.length ≤ cs.length) (hj : j < off ∨ off + new.length ≤ j) : (splice cs off new)[j]? = cs[j]? := by
  unfold splice
  rcases hj with hj | hj
  · rw [List.append_assoc, List.getElem?_append_left (by simp; omega), List.getElem?_take_of_lt hj]
  · rw [List.getElem?_append_right (by simp; omega), List.getElem?_drop]
    congr 1; simp; omega
theorem splice_in {cs new : List Value} {off j : Nat} (h : off + new.length ≤ cs.length) (hj : j < new.length) : (splice cs off new)[off + j]? = new[j]? := by
  unfold splice
  rw [List.append_assoc, List.getElem?_append_right (by simp; omega), List.getElem?_append_left (by simp; omega)]
  congr 1; simp; omega

theorem fill_fold (new : List Value) : ∀ (j off : Nat) (cs : Array Value), off + j + new.length ≤ cs.size →
    ((new.zipIdx j).foldl (fun cs (c, j) => cs.setIfInBounds (off + j) c) cs).toList = splice cs.toList (off + j) new := by
  induction new with
  | nil => intro j off cs h; simp [splice]
  | cons v new ih =>
    intro j off cs h
    simp only [List.length_cons] at h
    simp only [List.zipIdx_cons, List.foldl_cons]
    rw [ih (j + 1) off _ (by simp; omega)]
    apply List.ext_getElem?
    intro q
    have hl1 : off + (j + 1) + new.length ≤ (cs.setIfInBounds (off + j) v).toList.length := by simp; omega
    have hl2 : off + j + (v :: new).length ≤ cs.toList.length := by simp; omega
    by_cases h1 : q < off + j ∨ off + j + (new.length + 1) ≤ q
    · rw [splice_out hl1 (by omega), splice_out hl2 (by simp; omega)]
      rw [Array.getElem?_toList, Array.getElem?_toList, Array.getElem?_setIfInBounds_ne (by omega)]
    · by_cases h2 : q = off + j
      · subst h2
        rw [splice_out hl1 (by omega)]
        have := splice_in (j := 0) hl2 (by simp)
        rw [Nat.add_zero] at this
        rw [this, Array.getElem?_toList, Array.getElem?_setIfInBounds_self_of_lt (by omega)]
        simp
      · have g1 := splice_in (j := q - (off + (j + 1))) hl1 (by omega)
        have g2 := splice_in (j := q - (off + j)) hl2 (by simp; omega)
        rw [show off + (j + 1) + (q - (off + (j + 1))) = q by omega] at g1
        rw [show off + j + (q - (off + j)) = q by omega] at g2
        rw [g1, g2, show q - (off + j) = (q - (off + (j + 1))) + 1 by omega, List.getElem?_cons_succ]

theorem fill_one (v : Value) (off : Nat) (cs : Array Value) (h : off + v.cells.size ≤ cs.size) :
    (v.cells.zipIdx.foldl (fun cs (c, j) => cs.setIfInBounds (off + j) c) cs).toList = splice cs.toList off v.cells.toList := by
  rw [← Array.foldl_toList, Array.toList_zipIdx]
  have := fill_fold v.cells.toList 0 off cs (by simpa using h)
  simpa using this

/-- cells of a list turned: those of a value laid over them -/
theorem CAt_splice {n : Nat} {cs new : List Value} {a m c s : List AV} {off : Nat} (hc : CAt ρ n (fun i => cs[i]?) (a ++ m ++ c) 0) (hl : cs.length = asz (a ++ m ++ c)) (ha : asz a = off) (hm : asz m = asz s)
    (hn : CAt ρ n (fun i => new[i]?) s 0) (hnl : new.length = asz s) : CAt ρ n (fun i => (splice cs off new)[i]?) (a ++ s ++ c) 0 ∧ (splice cs off new).length = asz (a ++ s ++ c) := by
  simp only [asz_append] at hl
  have hle : off + new.length ≤ cs.length := by omega
  refine ⟨?_, by rw [splice_length hle]; simp only [asz_append]; omega⟩
  refine CAt_put (ρ := ρ) (f := fun i => cs[i]?) (h := fun i => new[i]?) hc ha hm hn (fun j hj => ?_) (fun j hj => ?_)
  · exact splice_out hle (by omega)
  · exact splice_in hle (by omega)

theorem cellOrAgg {v : AV} (h : (v.isCell || v.isAgg) = true) : v.isCell = true ∨ ∃ s, v = .agg s := by
  cases v <;> simp [AV.isCell, AV.isAgg] at h ⊢

theorem partsSK_sound {n : Nat} {fs : List (Nat × TypeId)} (place : Nat → Option (Nat × Nat)) (hplace : ∀ i f fi, fs[i]? = some f → T f.2 = some fi → place i = some (f.1, fi.sz)) :
    ∀ {parts : List (Nat × AV)} {ps : List (Nat × Value)} {segs : List AV} {cells : Array Value} {K : List AV → Prop}, VRp ρ n parts ps → CAt ρ n (fun i => cells.toList[i]?) segs 0 → cells.size = asz segs →
    partsSK T fs parts segs K → ∃ s cells', K s ∧ Instr.fill place cells ps = some cells' ∧ CAt ρ n (fun i => cells'.toList[i]?) s 0 ∧ cells'.size = asz s
  | [], ps, segs, cells, K, hp, hc, hl, h => by
    simp only [VRp] at hp
    subst hp
    exact ⟨segs, cells, h, rfl, hc, hl⟩
  | (i, v) :: r, ps, segs, cells, K, hp, hc, hl, h => by
    simp only [VRp] at hp
    obtain ⟨c, cr, rfl, hv, hr⟩ := hp
    simp only [partsSK] at h
    split at h
    case h_2 => exact h.elim
    rename_i f hf
    split at h
    case h_2 => exact h.elim
    rename_i fi hfi
    split at h
    case h_2 => exact h.elim
    rename_i h1 h2
    have h1' := Nat.eq_of_beq_eq_true h1
    obtain ⟨a, m, c', g1, g2, g3, g4⟩ := putSegsK_sound h
    obtain ⟨c1, c2, c3⟩ := CAt_of_cells hv (cellOrAgg h2)
    subst g1
    have hl' : cells.toList.length = asz (a ++ m ++ c') := by simpa using hl
    obtain ⟨d1, d2⟩ := CAt_splice hc hl' g2 g3 c2 c1
    have hle : f.1 + c.cells.size ≤ cells.size := by
      simp only [asz_append] at hl'
      simp only [Array.length_toList] at hl' c1
      omega
    have hfold := fill_one c f.1 cells hle
    obtain ⟨s, cells', k1, k2, k3, k4⟩ := partsSK_sound place hplace (cells := c.cells.zipIdx.foldl (fun cs (c, j) => cs.setIfInBounds (f.1 + j) c) cells) hr
      (by rw [hfold]; exact d1) (by rw [← Array.length_toList, hfold]; exact d2) g4
    refine ⟨s, cells', k1, ?_, k3, k4⟩
    have hcz : c.cells.size = fi.sz := by rw [← h1', ← c1]; simp
    rw [hcz] at hle
    simp only [Instr.fill, hplace i f fi hf hfi]
    rw [if_neg (by simp [hcz]; omega)]
    exact k2

theorem run_mapM_of {α β : Type} (f : α → Sem β) (g : α → β) : ∀ (l : List α), (∀ a ∈ l, (f a).run P w = .ok (g a) w) → (l.mapM f).run P w = .ok (l.map g) w
  | [], _ => by simp
  | a :: l, h => by
    have ih := run_mapM_of f g l (fun a ha => h a (by simp [ha]))
    rw [List.mapM_cons]
    simp only [Sem.run_bind, h a (by simp), Result.andThen_ok, ih, Sem.run_pure, List.map_cons]

include hT in
theorem run_places {t : TypeId} {i : TI} {fields : Array Field} (ht : T t = some i) (hu : P.underlying t = some (.struct fields)) :
    (fields.mapM fun f => (do pure (f.offset, ← sizeOf f.type) : Sem (Nat × Nat))).run P w = .ok (fields.toList.map fun f => (f.offset, P.cellsOf f.type)).toArray w := by
  obtain ⟨info, dd, zv, p1, p2, p3, p4, p5, p6, p7, p8, p9, p10, p12, p11⟩ := hT.ok t i ht
  rw [hu] at p4; cases p4
  have hf := p12 fields rfl
  rw [Array.mapM_eq_mapM_toList]
  simp only [Sem.run_map]
  rw [run_mapM_of (w := w) _ (fun f => (f.offset, P.cellsOf f.type)) fields.toList (fun f hfm => by
    obtain ⟨info, hi⟩ := Option.isSome_iff_exists.1 (hf f hfm)
    simp [run_sizeOf w hi])]
  simp

/-- whole numbers out of parts -/
theorem setIntK_sound {x : Int} : ∀ {l : List Int} {i : Nat} {K : List Int → Prop}, setIntK x l i K → i < l.length ∧ K (l.set i x)
  | [], i, K, h => h.elim
  | y :: r, 0, K, h => ⟨by simp, h⟩
  | y :: r, i + 1, K, h => by
    obtain ⟨h1, h2⟩ := setIntK_sound (l := r) (i := i) h
    exact ⟨by simpa using h1, h2⟩

theorem repK_sound {α : Type} {x : α} : ∀ {n : Nat} {K : List α → Prop}, repK x n K → K (List.replicate n x)
  | 0, K, h => h
  | n + 1, K, h => by simpa [List.replicate_succ] using repK_sound (n := n) h

theorem set_map_int {k : IntKind} {xs : List Int} {i : Nat} {x : Int} : (xs.map (Value.int k)).set i (.int k x) = (xs.set i x).map (Value.int k) := by simp

theorem partsIK_sound {n : Nat} {k : IntKind} : ∀ {parts : List (Nat × AV)} {ps : List (Nat × Value)} {acc : List Int} {K : List Int → Prop}, VRp ρ n parts ps → partsIK k parts acc K →
    ∃ xs, K xs ∧ xs.length = acc.length ∧ Instr.fill (fun i => some (i * 1, 1)) (acc.map (Value.int k)).toArray ps = some (xs.map (Value.int k)).toArray
  | [], ps, acc, K, hp, h => by
    simp only [VRp] at hp; subst hp
    exact ⟨acc, h, rfl, rfl⟩
  | (i, v) :: r, ps, acc, K, hp, h => by
    simp only [VRp] at hp
    obtain ⟨c, cr, rfl, hv, hr⟩ := hp
    simp only [partsIK] at h
    split at h
    case h_2 => exact h.elim
    rename_i k' x
    split at h
    case h_2 => exact h.elim
    rename_i hk
    have hk' := of_decide_eq_true hk
    subst hk'
    simp only [VR] at hv; subst hv
    obtain ⟨hi, h⟩ := setIntK_sound h
    obtain ⟨xs, h1, h2, h3⟩ := partsIK_sound hr h
    refine ⟨xs, h1, by simpa using h2, ?_⟩
    simp only [Instr.fill]
    rw [if_neg (by simp [Value.cells]; omega)]
    rw [← h3]
    congr 1
    simp [Value.cells]

include hT in
theorem evBuild_sound {n : Nat} {t : TypeId} {parts : List (Nat × AV)} {ps : Array (Nat × Value)} {K : AV → Prop} (hp : VRp ρ n parts ps.toList) (h : evBuild T t parts K) :
    ∃ v cv, K v ∧ (Instr.build t ps).run P w = .ok cv w ∧ VR ρ n v cv := by
  unfold evBuild at h
  split at h
  case h_2 => exact h.elim
  rename_i i ht
  obtain ⟨zv, hz1, hz2, hz3, hz4⟩ := hT.zero ht w
  split at h
  · rename_i fs hd
    obtain ⟨fields, hu, hfs⟩ := hT.u_struct (t := t) (fs := fs) (by simp [td, ht, hd])
    have hpl := run_places (w := w) hT ht hu
    obtain ⟨s, cells', k1, k2, k3, k4⟩ := partsSK_sound (T := T) (ρ := ρ) (fun i => ((fields.toList.map fun f => (f.offset, P.cellsOf f.type)).toArray)[i]?) (fun i f fi hf hfi => by
      subst hfs
      simp only [List.getElem?_map, Option.map_eq_some_iff] at hf
      obtain ⟨fd, hfd, rfl⟩ := hf
      obtain ⟨info, _, _, p1, p2, _⟩ := hT.ok fd.type fi hfi
      simp [hfd, Program.cellsOf, p1, p2]) hp (hz2.1 ρ n) (by simpa using hz2.2) h
    refine ⟨_, .agg cells', k1, ?_, ?_⟩
    · simp only [Instr.build, Sem.run_bind, hz1, Result.andThen_ok, run_underlying hu, Sem.run_pure]
      rw [hpl]
      simp only [Result.andThen_ok]
      rw [k2]
      simp
    · simp only [VR]
      exact ⟨cells'.toList, by simp, k3, by simpa using k4⟩
  · rename_i m el hd
    split at h
    case h_2 => exact h.elim
    rename_i ei hei
    split at h
    case h_2 => exact h.elim
    rename_i k k' m' zs hk hsz hzz
    split at h
    case h_2 => exact h.elim
    rename_i hkk hmm
    have hk' := of_decide_eq_true hkk
    have hm' := Nat.eq_of_beq_eq_true hmm
    subst hk'; subst hm'
    have hsz' := Nat.eq_of_beq_eq_true hsz
    have hu := hT.u_array (t := t) (n := m') (e := el) (by simp [td, ht, hd])
    have hz2' := hz2.1 ρ n
    have hz2'' := hz2.2
    rw [hzz] at hz2' hz2''
    simp only [CAt, Nat.zero_add, asz, AV.sz, Nat.add_zero] at hz2' hz2''
    have hcells : zv.cells = (zs.map (Value.int k)).toArray := by
      apply Array.ext'
      apply List.ext_getElem?
      intro j
      rcases Nat.lt_or_ge j m' with hj | hj
      · rw [hz2'.1.2 j hj]
        simp [List.getD, List.getElem?_eq_getElem (show j < zs.length by omega)]
      · rw [List.getElem?_eq_none (by omega), List.getElem?_eq_none (by simp; omega)]
    obtain ⟨xs, k1, k2, k3⟩ := partsIK_sound hp h
    refine ⟨_, .agg (xs.map (Value.int k)).toArray, k1, ?_, ?_⟩
    · simp only [Instr.build, Sem.run_bind, hz1, Result.andThen_ok, run_underlying hu, hT.size hei w, hsz', hcells]
      rw [k3]
      simp
    · simp only [VR]
      refine ⟨xs.map (Value.int k), rfl, ?_, by simp [asz, AV.sz, k2, hz2'.1.1]⟩
      simp only [CAt, Nat.zero_add, and_true]
      refine ⟨by rw [k2]; exact hz2'.1.1, fun j hj => ?_⟩
      simp [List.getD, List.getElem?_eq_getElem (show j < xs.length by omega)]
  · exact h.elim
end
end Go.Aw
