/-
  Own work: parts of the proof: AwMp AwMp2 AwJ AwK AwL AwM AwN AwT.
-/
import Derived.Test.YtdababcblhbpeaaM1
import Derived.WideKeyRuns
import Derived.Scope

section
/-
  AwMp: maps whose keys are rows of numbers: what the model does is what the evaluator says. Own work.
-/
set_option linter.unusedVariables false
set_option linter.unusedSimpArgs false
set_option linter.unusedSectionVars false
namespace Go.Aw

def keyV (k : IntKind) (xs : List Int) : Value := .agg (xs.map (Value.int k)).toArray

section
variable {P : Program} {T : Tab} (hT : TOk P T) {w0 : Base} {w : World} {ρ : Nat → Loc} {hp : Hp} (hs : HSat w0 ρ hp w)

theorem run_getObj_any {r : Nat} {o : Obj} (h : w.heap[r]? = some o) (hc : ∀ c t f, o ≠ .cells c t f) : (getObj r).run P w = .ok o w := by
  unfold getObj
  cases o <;> first | (simp only [Sem.run, h]; done) | exact absurd rfl (hc _ _ _)
theorem run_setObj_any {r : Nat} {o o' : Obj} (h : w.heap[r]? = some o) (hc : ∀ c t f, o ≠ .cells c t f) : (setObj r o').run P w = .ok () { w with heap := w.heap.setIfInBounds r o' } := by
  unfold setObj
  cases o <;> first | (simp only [Sem.run, h]; done) | exact absurd rfl (hc _ _ _)

/-- what a key's type is -/
structure KeyT (P : Program) (T : Tab) (kt : TypeId) (k : IntKind) (n : Nat) : Prop where
  ex : ∃ i e, T kt = some i ∧ i.d = .array n e ∧ td T e = .int k ∧ i.sz = n ∧ i.eq = true

theorem keyK_sound {kt : TypeId} {x : AV} {K : IntKind → Nat → List Int → Prop} (h : keyK T kt x K) : ∃ k n xs, x = .agg [.ints k n xs] ∧ KeyT P T kt k n ∧ fitsAll T kt [.ints k n xs] = true ∧ K k n xs := by
  unfold keyK at h
  split at h
  case h_2 => exact h.elim
  rename_i k n xs
  split at h
  case h_2 => exact h.elim
  rename_i n' e hf htd
  refine ⟨k, n, xs, rfl, ?_, hf, h⟩
  unfold fitsAll at hf
  split at hf
  case h_2 => cases hf
  rename_i i ht
  have hd : i.d = .array n' e := by simpa [td, ht] using htd
  split at hf
  case h_2 => cases hf
  rename_i o h1 h2 h3
  simp only [fits, ht, hd] at h3
  split at h3
  case h_2 => cases h3
  rename_i k0 k' m0 ys r q1 q2 q3
  split at h3
  case h_2 => cases h3
  rename_i g1 g2 g3
  simp only [List.cons.injEq, AV.ints.injEq] at q2
  obtain ⟨⟨rfl, rfl, rfl⟩, rfl⟩ := q2
  have e1 := of_decide_eq_true g1
  have e2 := Nat.eq_of_beq_eq_true g2
  have e3 := Nat.eq_of_beq_eq_true g3
  subst e1 e2
  exact ⟨i, e, ht, hd, q1, e3, q3⟩

include hT in
theorem keyT_fits {kt : TypeId} {k : IntKind} {n : Nat} (h : KeyT P T kt k n) (xs : List Int) : fitsAll T kt [.ints k n xs] = true := by
  obtain ⟨i, e, h1, h2, h3, h4, h5⟩ := h.ex
  unfold fitsAll
  have g : fits T 8 kt [.ints k n xs] = some (n, []) := by simp [fits, h1, h2, h3, h4, h5]
  simp only [h1, h2, TD.agg, h5, g]

include hT in
theorem run_equal_key {kt : TypeId} {k : IntKind} {n : Nat} (h : KeyT P T kt k n) {a b : List Int} (ha : a.length = n) (hb : b.length = n) : (Op.equal kt (keyV k a) (keyV k b)).run P w = .ok (a == b) w := by
  have f1 := keyT_fits hT h a
  have f2 := keyT_fits hT h b
  obtain ⟨i, e, h1, h2, h3, h4, h5⟩ := h.ex
  have g : ∀ xs : List Int, fits T 8 kt [.ints k n xs] = some (n, []) := by
    intro xs
    simp [fits, h1, h2, h3, h4, h5]
  obtain ⟨e1, ⟨i', e2, e2'⟩, c, c', e3, e4, e5, e6, e7, e8⟩ := fits_sound (P := P) (w := w) (ρ := fun _ => ⟨0, 0, 0, 0⟩) (n := 0) hT 8 kt _ _ n n [] [] (g a) (g b)
  rw [List.append_nil] at e3 e4
  subst e3; subst e4
  have cat : ∀ xs : List Int, xs.length = n → CAt (fun _ => ⟨0, 0, 0, 0⟩) 0 (fun i => (xs.map (Value.int k)).toArray[i]?) [.ints k n xs] 0 := by
    intro xs hx
    simp only [CAt, and_true]
    refine ⟨hx, fun j hj => ?_⟩
    rw [Nat.zero_add]
    exact ints_cells (by omega)
  obtain ⟨x1, y1, q1, q2, q3⟩ := e8 9991 (a.map (Value.int k)).toArray (b.map (Value.int k)).toArray 0 ((a == b) && true) (by simpa using cat a ha) (by simpa using cat b hb) (by simp [ha, asz, AV.sz]) (by simp [hb, asz, AV.sz]) (by simp [eqb])
  have hpart : ∀ (zs : List Int), zs.length = n → (part kt (zs.map (Value.int k)).toArray 0).run P w = .ok (keyV k zs) w := by
    intro zs hz
    simp only [part, Sem.run_bind, hT.agg h1 w, h2, TD.agg, Result.andThen_ok, if_true, hT.size h1 w, Sem.run_pure]
    unfold keyV
    congr 2
    apply Array.ext'
    simp [hz, h4, List.take_of_length_le]
  rw [hpart a ha] at q1
  rw [hpart b hb] at q2
  cases q1; cases q2
  rw [Bool.and_true] at q3
  exact q3

include hT in
theorem run_checkKey_ints {kt : TypeId} {k : IntKind} {n : Nat} (h : KeyT P T kt k n) {a : List Int} (ha : a.length = n) (em : Bool) : (Instr.checkKey em 10000 kt (keyV k a)).run P w = .ok () w := by
  obtain ⟨i, e, h1, h2, h3, h4, h5⟩ := h.ex
  have hu := hT.u_array (t := kt) (e := e) (n := n) (by simp [td, h1, h2])
  have hue := hT.u_int h3
  obtain ⟨ie, g1, g2⟩ := td_some h3 (by simp)
  have hsz : ∀ w, (sizeOf e).run P w = .ok ie.sz w := fun w => hT.size g1 w
  have hone : ie.sz = 1 := by
    obtain ⟨info, d, zv, _, _, _, _, _, _, _, _, p, _⟩ := hT.ok e ie g1
    exact p (by rw [g2]; rfl)
  unfold keyV
  rw [show (10000 : Nat) = 9999 + 1 by decide, Instr.checkKey]
  simp only [Sem.run_bind, run_underlying hu, Result.andThen_ok]
  simp only [Std.Legacy.Range.forIn_eq_forIn_range', Std.Legacy.Range.size, Nat.sub_zero, Nat.add_one_sub_one, Nat.div_one]
  have each : ∀ j ∈ List.range' 0 n, j < n := fun j hj => by simpa using hj
  generalize List.range' 0 n = is at each
  induction is with
  | nil => simp
  | cons j is ih =>
    have hj := each j (by simp)
    have p1 : (part e (a.map (Value.int k)).toArray (j * 1)).run P w = .ok (.int k (a.getD j 0)) w := by
      rw [Nat.mul_one]
      simp only [part, Sem.run_bind, isAgg, run_underlying hue, Result.andThen_ok, Sem.run_pure]
      rw [ints_cells (by omega)]
      simp
    have p2 : (Instr.checkKey em 9999 e (.int k (a.getD j 0))).run P w = .ok () w := by
      rw [show (9999 : Nat) = 9998 + 1 by decide, Instr.checkKey]
      simp [run_underlying hue]
    simp only [List.forIn_cons, Sem.run_bind, hsz, hone, Result.andThen_ok, p1, p2, Sem.run_pure]
    exact ih (fun y hy => each y (by simp [hy]))

theorem sameBits_key (k : IntKind) (a : List Int) (m : Nat) : Instr.sameBits (m + 1) (keyV k a) (keyV k a) = true := by
  unfold keyV
  simp only [Instr.sameBits, beq_self_eq_true, Bool.true_and, List.all_eq_true]
  rintro ⟨x, y⟩ hxy
  have : x = y ∧ ∃ z, x = .int k z := by
    have h2 : ∀ l : List Value, (x, y) ∈ l.zip l → x = y ∧ x ∈ l := by
      intro l
      induction l with
      | nil => simp
      | cons c r ih =>
        simp only [List.zip_cons_cons, List.mem_cons, Prod.mk.injEq]
        rintro (⟨rfl, rfl⟩ | h)
        · exact ⟨rfl, .inl rfl⟩
        · exact ⟨(ih h).1, .inr (ih h).2⟩
    obtain ⟨h3, h4⟩ := h2 _ hxy
    simp at h4
    obtain ⟨z, _, h5⟩ := h4
    exact ⟨h3, z, h5.symm⟩
  obtain ⟨rfl, z, rfl⟩ := this
  cases m <;> simp [Instr.sameBits]
theorem run_keyStays (k : IntKind) (a : List Int) : (Instr.keyThatStays (keyV k a) (keyV k a)).run P w = .ok (keyV k a) w := by
  unfold Instr.keyThatStays
  rw [show (10000 : Nat) = 9999 + 1 by decide, sameBits_key]
  simp

/-- where a key stands -/
def idxM (key : List Int) : List (Nat × List Int × AV) → Option Nat
  | [] => none
  | e :: r => match key == e.2.1 with | true => some 0 | false => (idxM key r).map (· + 1)
include hT in
theorem run_findAsking_ints {kt : TypeId} {k : IntKind} {kn : Nat} (h : KeyT P T kt k kn) {a : List Int} (ha : a.length = kn) {n : Nat} : ∀ {es : List (Nat × List Int × AV)} {cs : List MapEntry} (i : Nat), MEs ρ n k kn es cs →
    (Instr.findAsking kt (keyV k a) cs i).run P w = .ok ((idxM a es).bind fun j => (cs[j]?).map fun c => (i + j, c.val)) w
  | [], _, i, hm => by
    cases hm
    simp [Instr.findAsking, idxM]
  | e :: es, _, i, hm => by
    obtain ⟨c, cr, rfl, ⟨m1, m2, m3, m4⟩, m5⟩ := hm
    have q : (Op.equal kt (keyV k a) c.key).run P w = .ok (a == e.2.1) w := by rw [m2]; exact run_equal_key hT h ha m3
    simp only [Instr.findAsking, Sem.run_bind, q, Result.andThen_ok, idxM]
    cases hb : (a == e.2.1) with
    | true => simp
    | false =>
      have ih := run_findAsking_ints h ha (i + 1) m5
      simp only [Bool.false_eq_true, if_false, ih]
      cases hx : idxM a es with
      | none => simp
      | some j => simp [Nat.add_assoc, Nat.add_comm 1 j]
include hT in
theorem run_findKey_ints {kt : TypeId} {k : IntKind} {kn : Nat} (h : KeyT P T kt k kn) {a : List Int} (ha : a.length = kn) {n : Nat} {es : List (Nat × List Int × AV)} {cs : List MapEntry} (hm : MEs ρ n k kn es cs) :
    (Instr.findKey kt (keyV k a) cs).run P w = .ok ((idxM a es).bind fun j => (cs[j]?).map fun c => (j, c.val)) w := by
  obtain ⟨i, e, h1, h2, h3, h4, h5⟩ := h.ex
  have hu := hT.u_array (t := kt) (e := e) (n := kn) (by simp [td, h1, h2])
  rw [run_findKey_eq w (by simp [hu])]
  have := run_findAsking_ints (w := w) hT h ha 0 hm
  simpa using this

theorem idxM_find {a : List Int} {k : IntKind} {kn n : Nat} : ∀ {es : List (Nat × List Int × AV)} {cs : List MapEntry}, MEs ρ n k kn es cs →
    (idxM a es = none ∧ findM a es = none) ∨ ∃ j e c, idxM a es = some j ∧ findM a es = some e ∧ es[j]? = some e ∧ cs[j]? = some c ∧ e.2.1 = a ∧ ME ρ n k kn e c
  | [], _, hm => .inl ⟨rfl, rfl⟩
  | e :: es, _, hm => by
    obtain ⟨c, cr, rfl, m1, m5⟩ := hm
    simp only [idxM, findM]
    cases hb : (a == e.2.1) with
    | true => exact .inr ⟨0, e, c, rfl, rfl, rfl, rfl, (beq_iff_eq.1 hb).symm, m1⟩
    | false =>
      rcases idxM_find m5 with ⟨g1, g2⟩ | ⟨j, e', c', g1, g2, g3, g4, g5, g6⟩
      · exact .inl ⟨by simp [g1], g2⟩
      · exact .inr ⟨j + 1, e', c', by simp [g1], g2, by simpa using g3, by simpa using g4, g5, g6⟩
theorem MEs_len {k : IntKind} {kn n : Nat} : ∀ {es : List (Nat × List Int × AV)} {cs : List MapEntry}, MEs ρ n k kn es cs → cs.length = es.length
  | [], _, hm => by cases hm; rfl
  | e :: es, _, hm => by obtain ⟨c, cr, rfl, _, m5⟩ := hm; simp [MEs_len m5]
theorem MEs_app {k : IntKind} {kn n : Nat} : ∀ {es es' : List (Nat × List Int × AV)} {cs cs' : List MapEntry}, MEs ρ n k kn es cs → MEs ρ n k kn es' cs' → MEs ρ n k kn (es ++ es') (cs ++ cs')
  | [], es', _, cs', hm, h2 => by cases hm; exact h2
  | e :: es, es', _, cs', hm, h2 => by obtain ⟨c, cr, rfl, m1, m5⟩ := hm; exact ⟨c, cr ++ cs', rfl, m1, MEs_app m5 h2⟩

/-! ### the map's object, out of the memory -/
include hs in
theorem map_obj {b : Nat} {en : Ent} {k : IntKind} {n : Nat} {es : List (Nat × List Int × AV)} {clock : Nat} (hen : hp[b]? = some en) (ho : en.o = .map k n es clock) :
    ∃ cs : List MapEntry, w.heap[(ρ b).blk]? = some (.map cs.toArray clock) ∧ MEs ρ hp.length k n es cs := by
  have := hs.obj b en hen
  rw [ho] at this
  exact this
include hs in
/-- the map's object turns -/
theorem map_turn {b : Nat} {en : Ent} {k k' : IntKind} {n n' : Nat} {es es' : List (Nat × List Int × AV)} {clock clock' : Nat} {cs' : List MapEntry} {K : Hp → Prop} (hen : hp[b]? = some en) (ho : en.o = .map k n es clock) (hro : en.ro = false)
    (hm : MEs ρ hp.length k' n' es' cs') (h : setObjK hp b en (.map k' n' es' clock') K) :
    ∃ hp', K hp' ∧ hp'.length = hp.length ∧ HSat w0 ρ hp' { w with heap := w.heap.setIfInBounds (ρ b).blk (.map cs'.toArray clock') } := by
  obtain ⟨h1, h2⟩ := setObjK_sound h
  have hl : en.o.lv (ρ b) = true := by rw [ho]; rfl
  refine ⟨_, h2, by simp [dropV_length], hs.set hen hro hl _ (fun i hi => ?_) (by simp) rfl rfl rfl ?_⟩
  · simp [Array.getElem?_setIfInBounds_ne (Ne.symm hi)]
  · have hlt := (hs.own b en hen hro hl).2
    exact ⟨cs', by simp [hlt], hm⟩

theorem zero_sound (hT : TOk P T) {t : TypeId} {i : TI} {z : AV} (ht : T t = some i) (h : zeroAV i = some z) (n : Nat) : ∃ zv, (zeroValue t).run P w = .ok zv w ∧ VR ρ n z zv := by
  obtain ⟨zv, hz1, hz2, hz3, hz4⟩ := hT.zero ht w
  refine ⟨zv, hz1, ?_⟩
  unfold zeroAV at h
  split at h
  · rename_i ha
    cases h
    obtain ⟨cs, rfl⟩ := hz4 ha
    simp only [VR]
    refine ⟨cs.toList, by simp, ?_, ?_⟩
    · have := hz2.1 ρ n
      simpa [Value.cells] using this
    · have := hz2.2
      simpa [Value.cells] using this
  · rename_i ha
    split at h
    · rename_i z' hzz
      split at h
      case h_2 => cases h
      rename_i hc
      cases h
      have h1 := hz2.1 ρ n
      have h2 := hz2.2
      rw [hzz] at h1 h2
      have hni := isCell_not_ints hc
      rw [CAt_cons hni] at h1
      obtain ⟨⟨c, g1, g2, g3⟩, _⟩ := h1
      have hone : zv.cells.toList = [c] := by
        have hsz : asz [z] = 1 := by simp [asz, AV.sz_one hni]
        rw [hsz] at h2
        match hl : zv.cells.toList with
        | [] => rw [hl] at h2; simp at h2
        | [x] => rw [hl] at g1; simp at g1; rw [g1]
        | x :: y :: r => rw [hl] at h2; simp at h2
      have : zv = c := by
        cases zv with
        | agg cs =>
          exact absurd rfl (hT.zero_one ht (by simpa using ha) hz1 cs)
        | _ => simp [Value.cells] at hone; exact hone
      rw [this]; exact g3
    · cases h

theorem key_of_VR {n kn : Nat} {k : IntKind} {xs : List Int} {c : Value} (h : VR ρ n (.agg [.ints k kn xs]) c) : c = keyV k xs ∧ xs.length = kn := by
  simp only [VR] at h
  obtain ⟨cs, rfl, h1, h2⟩ := h
  simp only [CAt, and_true] at h1
  obtain ⟨h3, h4⟩ := h1
  refine ⟨?_, h3⟩
  unfold keyV
  congr 2
  apply List.ext_getElem?
  intro i
  have hl : cs.length = kn := by simpa [asz, AV.sz] using h2
  by_cases hi : i < kn
  · have := h4 i hi
    rw [Nat.zero_add] at this
    rw [this, List.getElem?_map, List.getElem?_eq_getElem (by omega)]
    simp [List.getD_eq_getElem?_getD, List.getElem?_eq_getElem (show i < xs.length by omega)]
  · rw [List.getElem?_eq_none (by omega), List.getElem?_eq_none (by simp; omega)]
theorem VR_of_key {n kn : Nat} {k : IntKind} {xs : List Int} (h : xs.length = kn) : VR ρ n (.agg [.ints k kn xs]) (keyV k xs) := by
  simp only [VR]
  refine ⟨xs.map (Value.int k), rfl, ?_, by simp [asz, AV.sz, h]⟩
  simp only [CAt, and_true]
  refine ⟨h, fun j hj => ?_⟩
  rw [Nat.zero_add]
  have := ints_cells (k := k) (xs := xs) (j := j) (by omega)
  simpa using this

theorem TOk.u_map (hT : TOk P T) {t a b : TypeId} (h : td T t = .map a b) : P.underlying t = some (.map a b) := by
  obtain ⟨d, h1, h2⟩ := hT.under h (by simp)
  cases d <;> simp_all [tdOk]

include hT hs in
theorem evLookup_sound {t : TypeId} {m key : AV} {cm ck : Value} {ok : Bool} {K : AV → Prop} (hm : VR ρ hp.length m cm) (hk : VR ρ hp.length key ck) (h : evLookup T hp t m key ok K) :
    ∃ v cv, K v ∧ (Instr.lookup t cm ck ok).run P w = .ok cv w ∧ VR ρ hp.length v cv := by
  unfold evLookup at h
  split at h
  case h_2 => exact h.elim
  rename_i b
  split at h
  case h_2 => exact h.elim
  rename_i kt et htd
  split at h
  case h_2 => exact h.elim
  rename_i ei hei
  obtain ⟨k, n, xs, rfl, hK, hf, h⟩ := keyK_sound (P := P) h
  obtain ⟨en, hen, h⟩ := entK_sound h
  split at h
  case h_2 => exact h.elim
  rename_i k' n' es clock ho
  split at h
  case h_2 => exact h.elim
  rename_i q1 q2
  have q1 := of_decide_eq_true q1
  have q2 := Nat.eq_of_beq_eq_true q2
  subst q1 q2
  simp only [VR] at hm
  obtain ⟨hb, rfl⟩ := hm
  obtain ⟨rfl, hxl⟩ := key_of_VR hk
  obtain ⟨cs, hobj, hME⟩ := map_obj hs hen ho
  have hu := TOk.u_map hT htd
  have r1 : (getObj (ρ b).blk).run P w = .ok (.map cs.toArray clock) w := run_getObj_any hobj (fun _ _ _ e => by cases e)
  have r2 := fun em => run_checkKey_ints (w := w) hT hK hxl em
  have r3 := run_findKey_ints (w := w) hT hK hxl hME
  unfold Instr.lookup
  simp only [Sem.run_bind, run_underlying hu, Result.andThen_ok, r1, Sem.run_pure, r2, r3]
  unfold lookK at h
  rcases idxM_find (a := xs) hME with ⟨g1, g2⟩ | ⟨j, e, c, g1, g2, g3, g4, g5, g6⟩
  · rw [g2] at h
    simp only at h
    split at h
    case h_2 => exact h.elim
    rename_i z hz
    obtain ⟨zv, z1, z2⟩ := zero_sound (P := P) (w := w) (ρ := ρ) hT hei hz hp.length
    simp only [g1, Option.bind_none, z1, Sem.run_bind, Result.andThen_ok, Sem.run_pure]
    split at h
    · exact ⟨_, .tuple #[zv, .bool false], h, rfl, by simp only [VR]; exact ⟨[zv, .bool false], rfl, by simp only [VRs, VR]; exact ⟨_, _, rfl, z2, _, _, rfl, rfl, rfl⟩⟩⟩
    · exact ⟨_, zv, h, rfl, z2⟩
  · rw [g2] at h
    simp only at h
    simp only [g1, Option.bind_some, g4, Option.map_some, Sem.run_pure, Result.andThen_ok]
    have hv := g6.2.2.2
    split at h
    · exact ⟨_, .tuple #[c.val, .bool true], h, rfl, by simp only [VR]; exact ⟨[c.val, .bool true], rfl, by simp only [VRs, VR]; exact ⟨_, _, rfl, hv, _, _, rfl, rfl, rfl⟩⟩⟩
    · exact ⟨_, c.val, h, rfl, hv⟩

/-! ### lists of entries that turn -/
theorem MEs_put {k : IntKind} {kn n : Nat} {a : List Int} (ha : a.length = kn) {v : AV} {cv : Value} (hv : VR ρ n v cv) (clock : Nat) : ∀ {es : List (Nat × List Int × AV)} {cs : List MapEntry}, MEs ρ n k kn es cs →
    (idxM a es = none → MEs ρ n k kn (putM a v clock es) (cs ++ [⟨keyV k a, cv, clock⟩])) ∧
    (∀ j, idxM a es = some j → MEs ρ n k kn (putM a v clock es) (cs.modify j fun e => { e with key := keyV k a, val := cv }))
  | [], _, hm => by
    cases hm
    exact ⟨fun _ => ⟨_, [], rfl, ⟨rfl, rfl, ha, hv⟩, rfl⟩, fun j hj => by cases hj⟩
  | e :: es, _, hm => by
    obtain ⟨c, cr, rfl, m1, m5⟩ := hm
    obtain ⟨i1, i2⟩ := MEs_put ha hv clock m5
    simp only [idxM, putM]
    cases hb : (a == e.2.1) with
    | true =>
      refine ⟨fun g => (by cases g), fun j hj => ?_⟩
      cases hj
      exact ⟨_, cr, rfl, ⟨m1.1, by show keyV k a = _; unfold keyV; rw [beq_iff_eq.1 hb], m1.2.2.1, hv⟩, m5⟩
    | false =>
      simp only [Option.map_eq_none_iff, Option.map_eq_some_iff]
      refine ⟨fun g => ⟨c, _, rfl, m1, i1 g⟩, ?_⟩
      rintro j ⟨j', hj', rfl⟩
      exact ⟨c, _, rfl, m1, i2 j' hj'⟩
theorem MEs_same {k : IntKind} {kn n : Nat} {a : List Int} : ∀ {es : List (Nat × List Int × AV)} {cs : List MapEntry} {j : Nat}, MEs ρ n k kn es cs → idxM a es = some j →
    (cs.modify j fun e => { e with key := keyV k a }) = cs
  | [], _, j, hm, h => by cases h
  | e :: es, _, j, hm, h => by
    obtain ⟨c, cr, rfl, m1, m5⟩ := hm
    simp only [idxM] at h
    cases hb : (a == e.2.1) with
    | true =>
      rw [hb] at h
      cases h
      have : keyV k a = c.key := by rw [m1.2.1, ← beq_iff_eq.1 hb]; rfl
      simp [this]
    | false =>
      rw [hb] at h
      simp only [Option.map_eq_some_iff] at h
      obtain ⟨j', hj', rfl⟩ := h
      simp [MEs_same m5 hj']
theorem MEs_del {k : IntKind} {kn n : Nat} {a : List Int} : ∀ {es : List (Nat × List Int × AV)} {cs : List MapEntry}, MEs ρ n k kn es cs →
    (idxM a es = none → delM a es = es) ∧ (∀ j, idxM a es = some j → MEs ρ n k kn (delM a es) (cs.eraseIdx j))
  | [], _, hm => ⟨fun _ => rfl, fun j hj => by cases hj⟩
  | e :: es, _, hm => by
    obtain ⟨c, cr, rfl, m1, m5⟩ := hm
    obtain ⟨i1, i2⟩ := MEs_del (a := a) m5
    simp only [idxM, delM]
    cases hb : (a == e.2.1) with
    | true => exact ⟨fun g => (by cases g), fun j hj => by cases hj; exact m5⟩
    | false =>
      simp only [Option.map_eq_none_iff, Option.map_eq_some_iff]
      refine ⟨fun g => by rw [i1 g], ?_⟩
      rintro j ⟨j', hj', rfl⟩
      exact ⟨c, _, rfl, m1, i2 j' hj'⟩
theorem MEs_born {k : IntKind} {kn n : Nat} {b : Nat} {v : AV} {cv : Value} (hv : VR ρ n v cv) : ∀ {es : List (Nat × List Int × AV)} {cs : List MapEntry}, MEs ρ n k kn es cs → (findB b es).isSome = true →
    ∃ j, cs.findIdx? (fun e => (e.born : Int) == (b : Int)) = some j ∧ MEs ρ n k kn (bornM b v es) (cs.modify j fun e => { e with val := cv })
  | [], _, hm, h => by cases h
  | e :: es, _, hm, h => by
    obtain ⟨c, cr, rfl, m1, m5⟩ := hm
    simp only [findB] at h
    simp only [bornM, List.findIdx?_cons]
    have hce : ((c.born : Int) == (b : Int)) = Nat.beq e.1 b := by
      rw [m1.1, Bool.eq_iff_iff, beq_iff_eq, Nat.beq_eq]; omega
    rw [hce]
    cases hb : Nat.beq e.1 b with
    | true => exact ⟨0, rfl, ⟨_, cr, rfl, ⟨m1.1, m1.2.1, m1.2.2.1, hv⟩, m5⟩⟩
    | false =>
      rw [hb] at h
      obtain ⟨j, g1, g2⟩ := MEs_born hv m5 h
      exact ⟨j + 1, by simp [g1], ⟨c, _, rfl, m1, g2⟩⟩

include hT hs in
theorem evMapUpdate_sound {t : TypeId} {m key v : AV} {cm ck cv : Value} {K : Hp → Prop} (hm : VR ρ hp.length m cm) (hk : VR ρ hp.length key ck) (hv : VR ρ hp.length v cv) (h : evMapUpdate T hp t m key v K) :
    ∃ hp' w', K hp' ∧ (Instr.mapUpdate t cm ck cv).run P w = .ok () w' ∧ HSat w0 ρ hp' w' ∧ hp'.length = hp.length := by
  unfold evMapUpdate at h
  split at h
  case h_2 => exact h.elim
  rename_i b
  split at h
  case h_2 => exact h.elim
  rename_i kt et htd
  obtain ⟨k, n, xs, rfl, hK, hf, h⟩ := keyK_sound (P := P) h
  obtain ⟨en, hen, h⟩ := entK_sound h
  split at h
  case h_2 => exact h.elim
  rename_i k' n' es clock hro ho
  split at h
  case h_2 => exact h.elim
  rename_i q1 q2
  have q1 := of_decide_eq_true q1
  have q2 := Nat.eq_of_beq_eq_true q2
  subst q1 q2
  simp only [VR] at hm
  obtain ⟨hb, rfl⟩ := hm
  obtain ⟨rfl, hxl⟩ := key_of_VR hk
  obtain ⟨cs, hobj, hME⟩ := map_obj hs hen ho
  have hu := TOk.u_map hT htd
  have r1 : (getObj (ρ b).blk).run P w = .ok (.map cs.toArray clock) w := run_getObj_any hobj (fun _ _ _ e => by cases e)
  have r2 := fun em => run_checkKey_ints (w := w) hT hK hxl em
  have r3 := run_findKey_ints (w := w) hT hK hxl hME
  have r4 := fun o' => run_setObj_any (P := P) (o' := o') hobj (fun _ _ _ e => by cases e)
  obtain ⟨p1, p2⟩ := MEs_put (a := xs) hxl hv clock hME
  unfold Instr.mapUpdate
  simp only [Sem.run_bind, run_underlying hu, Result.andThen_ok, r1, r2, r3]
  rcases idxM_find (a := xs) hME with ⟨g1, g2⟩ | ⟨j, e, c, g1, g2, g3, g4, g5, g6⟩
  · have hc : clockM xs es clock = clock + 1 := by simp [clockM, g2]
    rw [hc] at h
    obtain ⟨hp', h1, h2, h3⟩ := map_turn hs hen ho hro (p1 g1) h
    refine ⟨hp', _, h1, ?_, h3, h2⟩
    simp only [g1, Option.bind_none, r4]
    congr 3
    simp
  · have hc : clockM xs es clock = clock := by simp [clockM, g2]
    rw [hc] at h
    obtain ⟨hp', h1, h2, h3⟩ := map_turn hs hen ho hro (p2 j g1) h
    refine ⟨hp', _, h1, ?_, h3, h2⟩
    simp only [g1, Option.bind_some, g4, Option.map_some, Sem.run_bind]
    have hkk : c.key = keyV k xs := by rw [g6.2.1, g5]; rfl
    have : ((cs.toArray[j]?).map (·.key)).getD (keyV k xs) = keyV k xs := by simp [g4, hkk]
    rw [this, run_keyStays]
    simp only [Result.andThen_ok, r4]
    congr 3
    simp

include hT hs in
theorem evMapEntry_sound {t : TypeId} {m key : AV} {cm ck : Value} {K : Kont} (hm : VR ρ hp.length m cm) (hk : VR ρ hp.length key ck) (h : evMapEntry T hp t m key K) : Res P w0 ρ hp w (Instr.mapEntry t cm ck) K := by
  unfold evMapEntry at h
  split at h
  case h_2 => exact h.elim
  rename_i b
  split at h
  case h_2 => exact h.elim
  rename_i kt et htd
  split at h
  case h_2 => exact h.elim
  rename_i ei hei
  obtain ⟨k, n, xs, rfl, hK, hf, h⟩ := keyK_sound (P := P) h
  obtain ⟨en, hen, h⟩ := entK_sound h
  split at h
  case h_2 => exact h.elim
  rename_i k' n' es clock hro ho
  split at h
  case h_2 => exact h.elim
  rename_i q1 q2
  have q1 := of_decide_eq_true q1
  have q2 := Nat.eq_of_beq_eq_true q2
  subst q1 q2
  simp only [VR] at hm
  obtain ⟨hb, rfl⟩ := hm
  obtain ⟨rfl, hxl⟩ := key_of_VR hk
  obtain ⟨cs, hobj, hME⟩ := map_obj hs hen ho
  have hu := TOk.u_map hT htd
  have r1 : (getObj (ρ b).blk).run P w = .ok (.map cs.toArray clock) w := run_getObj_any hobj (fun _ _ _ e => by cases e)
  have r2 := fun em => run_checkKey_ints (w := w) hT hK hxl em
  have r3 := run_findKey_ints (w := w) hT hK hxl hME
  have r4 := fun o' => run_setObj_any (P := P) (o' := o') hobj (fun _ _ _ e => by cases e)
  unfold Res Instr.mapEntry
  simp only [Sem.run_bind, run_underlying hu, Result.andThen_ok, r1, r2, r3]
  rcases idxM_find (a := xs) hME with ⟨g1, g2⟩ | ⟨j, e, c, g1, g2, g3, g4, g5, g6⟩
  · rw [g2] at h
    simp only at h
    split at h
    case h_2 => exact h.elim
    rename_i z hz
    obtain ⟨zv, z1, z2⟩ := zero_sound (P := P) (w := w) (ρ := ρ) hT hei hz hp.length
    have hm2 : MEs ρ hp.length k n (es ++ [(clock, xs, z)]) (cs ++ [⟨keyV k xs, zv, clock⟩]) := MEs_app hME ⟨_, [], rfl, ⟨rfl, rfl, hxl, z2⟩, rfl⟩
    obtain ⟨hp', h1, h2, h3⟩ := map_turn hs hen ho hro hm2 h
    refine ⟨_, .tuple #[zv, goInt clock], hp', ρ, _, h1, ?_, ?_, h3, by omega, fun _ _ => rfl⟩
    · simp only [g1, Option.bind_none, z1, Sem.run_bind, Result.andThen_ok, r4, Sem.run_pure]
      congr 3
      simp
    · simp only [VR]
      exact ⟨[zv, goInt clock], rfl, by simp only [VRs, VR]; exact ⟨_, _, rfl, by rw [h2]; exact z2, _, _, rfl, rfl, rfl⟩⟩
  · rw [g2] at h
    simp only at h
    obtain ⟨hp', h1, h2, h3⟩ := map_turn hs hen ho hro hME h
    refine ⟨_, .tuple #[c.val, goInt e.1], hp', ρ, _, h1, ?_, ?_, h3, by omega, fun _ _ => rfl⟩
    · simp only [g1, Option.bind_some, g4, Option.map_some, Sem.run_bind]
      have hkk : c.key = keyV k xs := by rw [g6.2.1, g5]; rfl
      have : ((cs.toArray[j]?).map (·.key)).getD (keyV k xs) = keyV k xs := by simp [g4, hkk]
      rw [this, run_keyStays]
      have h5 : cs.toArray.modify j (fun e => { e with key := keyV k xs }) = cs.toArray := by
        have := MEs_same hME g1
        apply Array.ext'
        simpa using this
      simp only [Result.andThen_ok, r4, h5, Sem.run_pure]
      simp [g4, g6.1]
    · simp only [VR]
      exact ⟨[c.val, goInt e.1], rfl, by simp only [VRs, VR]; exact ⟨_, _, rfl, by rw [h2]; exact g6.2.2.2, _, _, rfl, rfl, rfl⟩⟩

include hs in
theorem evEntryStore_sound {t : TypeId} {m s v : AV} {cm cs' cv : Value} {K : Hp → Prop} (hm : VR ρ hp.length m cm) (hk : VR ρ hp.length s cs') (hv : VR ρ hp.length v cv) (h : evEntryStore hp m s v K) :
    ∃ hp' w', K hp' ∧ (Instr.entryStore t cm cs' cv).run P w = .ok () w' ∧ HSat w0 ρ hp' w' ∧ hp'.length = hp.length := by
  unfold evEntryStore at h
  split at h
  case h_2 => exact h.elim
  rename_i b
  split at h
  case h_2 => exact h.elim
  rename_i kk s
  obtain ⟨en, hen, h⟩ := entK_sound h
  split at h
  case h_2 => exact h.elim
  rename_i k n es clock hro ho
  obtain ⟨⟨s0, hsome⟩, h⟩ := h
  simp only [VR] at hm hk
  obtain ⟨hb, rfl⟩ := hm
  subst hk
  obtain ⟨cs, hobj, hME⟩ := map_obj hs hen ho
  have r1 : (getObj (ρ b).blk).run P w = .ok (.map cs.toArray clock) w := run_getObj_any hobj (fun _ _ _ e => by cases e)
  have r4 := fun o' => run_setObj_any (P := P) (o' := o') hobj (fun _ _ _ e => by cases e)
  obtain ⟨j, g1, g2⟩ := MEs_born (b := s.toNat) hv hME hsome
  obtain ⟨hp', h1, h2, h3⟩ := map_turn hs hen ho hro g2 h
  refine ⟨hp', _, h1, ?_, h3, h2⟩
  unfold Instr.entryStore
  have e1 : ((s.toNat : Nat) : Int) = s := by omega
  rw [e1] at g1
  simp only [Sem.run_bind, r1, Result.andThen_ok, asInt, asIntOf, Sem.run_pure]
  have g3 : cs.toArray.findIdx? (fun e => (e.born : Int) == s) = some j := by simpa using g1
  simp [asIntOf, Sem.run_bind, g3, r4]

include hT hs in
theorem evRange_sound {t : TypeId} {m : AV} {cm : Value} {K : Kont} (hm : VR ρ hp.length m cm) (h : evRange T hp t m K) : Res P w0 ρ hp w (Instr.range t cm) K := by
  unfold evRange at h
  split at h
  case h_2 => exact h.elim
  rename_i b
  split at h
  case h_2 => exact h.elim
  rename_i kt et htd
  obtain ⟨en, hen, h⟩ := entK_sound h
  split at h
  case h_2 => exact h.elim
  rename_i k n es clock hro ho
  simp only [VR] at hm
  obtain ⟨hb, rfl⟩ := hm
  obtain ⟨cs, hobj, hME⟩ := map_obj hs hen ho
  have hu := TOk.u_map hT htd
  have r1 : (getObj (ρ b).blk).run P w = .ok (.map cs.toArray clock) w := run_getObj_any hobj (fun _ _ _ e => by cases e)
  have hK := newEntK_sound _ h
  have h2 := hs.push (.mapIter (some (ρ b).blk) clock #[] clock) { w with heap := w.heap.push (.mapIter (some (ρ b).blk) clock #[] clock) } rfl rfl rfl rfl
  refine ⟨_, .pointer (some ⟨w.heap.size, 0, none⟩), _, upd ρ hp.length ⟨w.heap.size, 0, 0, 0⟩, { w with heap := w.heap.push (.mapIter (some (ρ b).blk) clock #[] clock) }, hK, ?_, ?_, ?_, by simp, fun b hb => upd_lt hb⟩
  · unfold Instr.range
    simp [run_underlying hu, r1]
  · simp only [VR, List.length_append, List.length_singleton, upd_self]
    exact ⟨by omega, by simp⟩
  · refine h2.add _ _ rfl rfl rfl (fun _ => ⟨fun g => by have := hs.size _ g; simp only at this; omega, by simp⟩) (fun _ b' x hx hr hl => ?_) ?_
    · have := hs.own b' x hx hr hl
      simp only; omega
    · refine ⟨by omega, rfl, ?_⟩
      rw [upd_lt hb]
      simp

theorem MEs_mem {k : IntKind} {kn n : Nat} : ∀ {es : List (Nat × List Int × AV)} {cs : List MapEntry}, MEs ρ n k kn es cs → ∀ c ∈ cs, ∃ e ∈ es, ME ρ n k kn e c
  | [], _, hm, c, hc => by cases hm; cases hc
  | e :: es, _, hm, c, hc => by
    obtain ⟨c', cr, rfl, m1, m5⟩ := hm
    rcases List.mem_cons.1 hc with rfl | hc
    · exact ⟨e, List.mem_cons_self, m1⟩
    · obtain ⟨e', h1, h2⟩ := MEs_mem m5 c hc
      exact ⟨e', List.mem_cons_of_mem _ h1, h2⟩
theorem MEs_mem' {k : IntKind} {kn n : Nat} : ∀ {es : List (Nat × List Int × AV)} {cs : List MapEntry}, MEs ρ n k kn es cs → ∀ e ∈ es, ∃ c ∈ cs, ME ρ n k kn e c
  | [], _, hm, e, he => by cases he
  | e :: es, _, hm, e', he => by
    obtain ⟨c', cr, rfl, m1, m5⟩ := hm
    rcases List.mem_cons.1 he with rfl | he
    · exact ⟨c', List.mem_cons_self, m1⟩
    · obtain ⟨c, h1, h2⟩ := MEs_mem' m5 e' he
      exact ⟨c, List.mem_cons_of_mem _ h1, h2⟩
theorem MEs_findB {k : IntKind} {kn n b : Nat} {e : Nat × List Int × AV} : ∀ {es : List (Nat × List Int × AV)} {cs : List MapEntry}, MEs ρ n k kn es cs → findB b es = some e → ∃ c, cs.find? (fun c => c.born == b) = some c ∧ ME ρ n k kn e c
  | [], _, hm, h => by cases h
  | e' :: es, _, hm, h => by
    obtain ⟨c', cr, rfl, m1, m5⟩ := hm
    simp only [findB] at h
    have hce : (c'.born == b) = Nat.beq e'.1 b := by rw [m1.1, Bool.eq_iff_iff, beq_iff_eq, Nat.beq_eq]
    rw [List.find?_cons, hce]
    cases hb : Nat.beq e'.1 b with
    | true => rw [hb] at h; cases h; exact ⟨c', rfl, m1⟩
    | false => rw [hb] at h; exact MEs_findB m5 h

include hs in
theorem evEntry_sound {it : AV} {ci : Value} {K : AV → Prop} (hi : VR ρ hp.length it ci) (h : evEntry hp it K) :
    ∃ v cv, K v ∧ (Instr.entry ci).run P w = .ok cv w ∧ VR ρ hp.length v cv := by
  unfold evEntry at h
  split at h
  case h_2 => exact h.elim
  rename_i b
  obtain ⟨en, hen, h⟩ := entK_sound h
  split at h
  case h_2 => exact h.elim
  rename_i m since s seen last hro ho
  obtain ⟨em, hem, h⟩ := entK_sound h
  split at h
  case h_2 => exact h.elim
  rename_i k n es clock hro' ho'
  obtain ⟨hcl, h⟩ := h
  split at h
  case h_2 => exact h.elim
  rename_i e he
  obtain ⟨cs, hobj, hME⟩ := map_obj hs hem ho'
  have hit := hs.obj b en hen
  rw [ho] at hit
  obtain ⟨i1, i2, i3⟩ := hit
  have hez := hs.esz b en hen
  simp only [VR] at hi
  obtain ⟨hb, rfl⟩ := hi
  have r1 : (getObj (ρ b).blk).run P w = .ok (.mapIter (some (ρ m).blk) since (s :: seen).reverse.toArray last) w := run_getObj_any i3 (fun _ _ _ e => by cases e)
  have r2 : (getObj (ρ m).blk).run P w = .ok (.map cs.toArray clock) w := run_getObj_any hobj (fun _ _ _ e => by cases e)
  obtain ⟨c, c1, c2⟩ := MEs_findB hME he
  have hfin := h
  refine ⟨_, .tuple #[c.key, c.val], hfin, ?_, ?_⟩
  · unfold Instr.entry
    rw [i2]
    simp [r1, r2, c1, hcl]
  · simp only [VR]
    refine ⟨[c.key, c.val], rfl, ?_⟩
    simp only [VRs]
    refine ⟨_, _, rfl, ?_, _, _, rfl, c2.2.2.2, rfl⟩
    rw [c2.2.1]
    exact VR_of_key c2.2.2.1

include hs in
theorem evNext_sound {it : AV} {ci : Value} {ty : TypeId} {K : Kont} (hi : VR ρ hp.length it ci) (h : evNext hp it K) : Res P w0 ρ hp w (Instr.next ci false ty) K := by
  unfold evNext at h
  split at h
  case h_2 => exact h.elim
  rename_i b
  obtain ⟨en, hen, h⟩ := entK_sound h
  split at h
  case h_2 => exact h.elim
  rename_i m since seen last hro ho
  obtain ⟨em, hem, h⟩ := entK_sound h
  split at h
  case h_2 => exact h.elim
  rename_i k n es clock hro' ho'
  obtain ⟨⟨⟨h1, h2⟩, hlt⟩, hsome, hnone⟩ := h
  obtain ⟨cs, hobj, hME⟩ := map_obj hs hem ho'
  have hit := hs.obj b en hen
  rw [ho] at hit
  obtain ⟨i1, i2, i3⟩ := hit
  rw [h1, h2] at i3
  simp only [VR] at hi
  obtain ⟨hb, rfl⟩ := hi
  have r1 : (getObj (ρ b).blk).run P w = .ok (.mapIter (some (ρ m).blk) clock seen.reverse.toArray clock) w := run_getObj_any i3 (fun _ _ _ e => by cases e)
  have r2 : (getObj (ρ m).blk).run P w = .ok (.map cs.toArray clock) w := run_getObj_any hobj (fun _ _ _ e => by cases e)
  have hcs : ∀ c ∈ cs, c.born < clock := fun c hc => by
    obtain ⟨e, he, hme⟩ := MEs_mem hME c hc
    rw [hme.1]; exact hlt e he
  have hbar : (!seen.reverse.toArray.isEmpty && !cs.toArray.isEmpty && cs.toArray.all (fun c => decide (c.born ≥ clock))) = false := by
    cases cs with
    | nil => simp
    | cons c r =>
      have := hcs c List.mem_cons_self
      simp only [Bool.and_eq_false_iff]
      right
      rw [Bool.eq_false_iff]
      intro g
      simp at g
      omega
  obtain ⟨cand, hcand⟩ : ∃ cand, ((if (Array.filter (fun c => decide (c.born < clock)) (Array.filter (fun c => !seen.reverse.toArray.contains c.born) cs.toArray)).isEmpty then #[none] else #[]) ++
      (Array.filter (fun c => decide (c.born < clock)) (Array.filter (fun c => !seen.reverse.toArray.contains c.born) cs.toArray) ++
        Array.filter (fun c => decide (c.born ≥ clock)) (Array.filter (fun c => !seen.reverse.toArray.contains c.born) cs.toArray)).map some) = cand := ⟨_, rfl⟩
  have hmem : ∀ x ∈ cand, (x = none ∧ ∀ c ∈ cs, c.born ∈ seen) ∨ ∃ c, x = some c ∧ c ∈ cs ∧ ¬ c.born ∈ seen := by
    intro x hx
    rw [← hcand] at hx
    rcases Array.mem_append.1 hx with hx | hx
    · split at hx
      · rename_i he
        simp at hx
        subst hx
        refine .inl ⟨rfl, fun c hc => ?_⟩
        have he := Array.isEmpty_iff.1 he
        by_cases hin : c.born ∈ seen
        · exact hin
        · exfalso
          have : c ∈ (Array.filter (fun c => decide (c.born < clock)) (Array.filter (fun c => !seen.reverse.toArray.contains c.born) cs.toArray)) := by
            simp [hc, hin, hcs c hc]
          rw [he] at this
          simp at this
      · simp at hx
    · right
      simp only [Array.mem_map, Array.mem_append, Array.mem_filter] at hx
      obtain ⟨c, hc, rfl⟩ := hx
      refine ⟨c, rfl, ?_⟩
      rcases hc with hc | hc
      · have := hc.1
        simp at this
        exact ⟨this.1, this.2⟩
      · have := hc.1
        simp at this
        exact ⟨this.1, this.2⟩
  have hpos : 0 < cand.size := by
    rw [← hcand]
    split
    · simp
    · rename_i he
      have : (Array.filter (fun c => decide (c.born < clock)) (Array.filter (fun c => !seen.reverse.toArray.contains c.born) cs.toArray)).size ≠ 0 := fun g => he (by rw [Array.isEmpty_iff_size_eq_zero]; exact g)
      simp only [Array.size_append, Array.size_map]
      omega
  obtain ⟨ix, w1, c1, c2, c3, c4, c5, c6⟩ : ∃ ix w1, (choose (.mapNext cand.size)).run P w = .ok ix w1 ∧ ix < cand.size ∧ w1.heap = w.heap ∧ w1.tape = w.tape ∧ w1.os = w.os ∧ w1.output = w.output := by
    by_cases hf : cand.size ≤ 1
    · exact ⟨0, w, by simp [choose, Sem.run, Question.forced, hf], hpos, rfl, rfl, rfl, rfl⟩
    · exact ⟨w.tape w.drawn (.mapNext cand.size) % cand.size, { w with drawn := w.drawn + 1 }, by simp [choose, Sem.run, Question.forced, Question.cut, hf], Nat.mod_lt _ hpos, rfl, rfl, rfl, rfl⟩
  have hx := hmem cand[ix] (Array.getElem_mem c2)
  have hs1 := hs.congr c3 c4 c5 c6
  have run : (Instr.next (.pointer (some ⟨(ρ b).blk, (ρ b).base + 0 * (ρ b).esz + 0 + 0, none⟩)) false ty).run P w =
      (match cand[ix]? with
        | some (some e) => (do setObj (ρ b).blk (.mapIter (some (ρ m).blk) clock (seen.reverse.toArray.push e.born) clock); pure (.tuple #[.bool true, e.key, e.val]) : Sem Value)
        | some none => pure (.tuple #[.bool false])
        | none => stuck "Next: no such candidate").run P w1 := by
    unfold Instr.next
    rw [i2]
    simp only [Nat.zero_mul, Nat.add_zero, Sem.run_bind, r1, Result.andThen_ok, r2, hbar, Bool.false_eq_true, if_false]
    rw [hcand]
    simp only [c1, Result.andThen_ok]
    rfl
  unfold Res
  rw [run, Array.getElem?_eq_getElem c2]
  rcases hx with ⟨hx, hall⟩ | ⟨c, hx, hc, hni⟩
  · rw [hx]
    refine ⟨_, .tuple #[.bool false], hp, ρ, w1, hnone fun e he => ?_, rfl, ?_, hs1, Nat.le_refl _, fun _ _ => rfl⟩
    · obtain ⟨c, hc, hme⟩ := MEs_mem' hME e he
      rw [← hme.1]; exact hall c hc
    · simp only [VR]
      exact ⟨[.bool false], rfl, by simp only [VRs, VR]; exact ⟨_, _, rfl, rfl, rfl⟩⟩
  · rw [hx]
    obtain ⟨e, he, hme⟩ := MEs_mem hME c hc
    have hK := hsome e he (by rw [← hme.1]; exact hni)
    obtain ⟨q1, q2⟩ := setObjK_sound hK
    have hl : en.o.lv (ρ b) = true := by rw [ho]; rfl
    have hbl : (ρ b).blk < w.heap.size := (hs.own b en hen hro hl).2
    have i4 : w1.heap[(ρ b).blk]? = some (.mapIter (some (ρ m).blk) clock seen.reverse.toArray clock) := by rw [c3]; exact i3
    have r4 := run_setObj_any (P := P) (o' := .mapIter (some (ρ m).blk) clock (seen.reverse.toArray.push c.born) clock) i4 (fun _ _ _ e => by cases e)
    refine ⟨_, .tuple #[.bool true, c.key, c.val], _, ρ, _, q2, ?_, ?_, hs1.set (w' := { w1 with heap := w1.heap.setIfInBounds (ρ b).blk (.mapIter (some (ρ m).blk) clock (seen.reverse.toArray.push c.born) clock) }) hen hro hl _ (fun i hi => ?_) (by simp) rfl rfl rfl ?_, by simp [dropV_length], fun _ _ => rfl⟩
    · simp only [Sem.run_bind, r4, Result.andThen_ok, Sem.run_pure]
    · simp only [VR, List.length_set, dropV_length]
      refine ⟨[.bool true, c.key, c.val], rfl, ?_⟩
      simp only [VRs, VR]
      refine ⟨_, _, rfl, rfl, _, _, rfl, ?_, _, _, rfl, hme.2.2.2, rfl⟩
      have := VR_of_key (ρ := ρ) (n := hp.length) (k := k) hme.2.2.1
      rw [hme.2.1]
      simpa only [VR, keyV] using this
    · simp [Array.getElem?_setIfInBounds_ne (Ne.symm hi)]
    · refine ⟨i1, i2, ?_⟩
      rw [h1, hme.1]
      simp [c3, hbl]
end
end Go.Aw
end

section
/-
  AwMp2: full slice expressions, appends that stay in place, clear, delete, the size of a map: what the model does is what the evaluator says. Own work.
-/
set_option linter.unusedVariables false
set_option linter.unusedSimpArgs false
set_option linter.unusedSectionVars false
namespace Go.Aw

section
variable {P : Program} {T : Tab} (hT : TOk P T) {w0 : Base} {w : World} {ρ : Nat → Loc} {hp : Hp} (hs : HSat w0 ρ hp w)

theorem run_sliceBounds3 {len cap a h m : Nat} {lo hi mx : Value} {lo' : Option Value} (hlo : BndIs lo' 0 a) (hhi : BndIs (some hi) 0 h) (hmx : BndIs (some mx) 0 m)
    (h1 : a ≤ h) (h2 : h ≤ m) (h3 : m ≤ cap) : (Instr.sliceBounds true len cap lo' (some hi) (some mx)).run P w = .ok (a, h, m) w := by
  have ha : (a : Int) ≤ h := by omega
  have hc : (h : Int) ≤ m := by omega
  have hm : (m : Int) ≤ cap := by omega
  obtain ⟨k1, rfl⟩ := hhi
  obtain ⟨k2, rfl⟩ := hmx
  cases lo' with
  | none =>
    simp only [BndIs] at hlo; subst hlo
    simp [Instr.sliceBounds, Instr.sliceBound, asIntOf, h2, h3]
  | some c =>
    obtain ⟨k, rfl⟩ := hlo
    simp [Instr.sliceBounds, Instr.sliceBound, asIntOf, h1, h2, h3]

include hT hs in
theorem evSlice3_sound {t : TypeId} {x mx : AV} {cx cmx : Value} {lo hi : Option AV} {clo chi : Option Value} {K : Kont} (hx : VR ρ hp.length x cx)
    (hlo : OVR ρ hp.length lo clo) (hhi : OVR ρ hp.length hi chi) (hmx : VR ρ hp.length mx cmx) (h : evSlice3 T hp t x lo hi mx K) : Res P w0 ρ hp w (Instr.sliceAt t cx clo chi (some cmx)) K := by
  unfold evSlice3 at h
  split at h
  case h_2 => exact h.elim
  rename_i b off len c0
  split at h
  case h_2 => exact h.elim
  rename_i e ht
  split at h
  case h_2 => exact h.elim
  rename_i ei hei
  obtain ⟨en, hen, h⟩ := entK_sound h
  split at h
  case h_2 => exact h.elim
  rename_i hz
  have hz' := Nat.eq_of_beq_eq_true hz
  have hez := hs.esz b en hen
  obtain ⟨m, h, hm⟩ := bnd_sound (c := some cmx) (show OVR ρ hp.length (some mx) (some cmx) from hmx) h
  split at h
  case h_2 => exact h.elim
  rename_i hiv
  cases chi with
  | none => exact hhi.elim
  | some chv =>
  obtain ⟨q, h, hq⟩ := bnd_sound hhi h
  obtain ⟨a, h, ha⟩ := bnd_sound hlo h
  obtain ⟨⟨h1, h2, h3⟩, hK⟩ := h
  simp only [VR] at hx
  obtain ⟨hb, ad, c, rfl, hlc, hcap, had⟩ := hx
  have hcc := hcap c0 rfl
  subst hcc
  have hbd := run_sliceBounds3 (P := P) (w := w) (len := len) (cap := c) (lo := chv) ha hq hm h1 h2 h3
  have hrun : (Instr.sliceAt t (.slice ad len c) clo (some chv) (some cmx)).run P w = .ok (.slice (if m = a then ad else ad.map (·.add (a * (ρ b).esz))) (q - a) (m - a)) w := by
    simp only [Instr.sliceAt, Sem.run_bind, run_underlying (hT.u_slice ht), Result.andThen_ok, Instr.slice, hbd, hT.size hei w, Sem.run_pure, hz', ← hez]
  refine Res.same hs hK hrun ?_
  simp only [VR]
  refine ⟨hb, _, _, rfl, by omega, (fun q' hq' => by cases hq'; rfl), ?_⟩
  by_cases e : m = a
  · left; omega
  · right
    rcases had with rfl | ⟨rfl, ht⟩
    · omega
    · simp only [e, if_false, Option.map_some, addr_add]
      have hle : (off + a + (m - a)) * (ρ b).esz ≤ (off + c) * (ρ b).esz := Nat.mul_le_mul_right _ (by omega)
      refine ⟨?_, by omega⟩
      congr 2
      rw [Nat.add_mul]; omega

/-- rows, a piece of which was overwritten by a piece of theirs -/
theorem rows_splice {n base sz : Nat} {cells cells' : Array Value} {els : List (List AV)} {a s m : Nat} (hcat : ∀ i x, els[i]? = some x → asz x = sz ∧ CAt ρ n (fun j => cells[base + i * sz + j]?) x 0) (ha : a + m ≤ els.length) (hsm : s + m ≤ els.length)
    (hout : ∀ j, j < els.length * sz → (j < a * sz ∨ (a + m) * sz ≤ j) → cells'[base + j]? = cells[base + j]?) (hin : ∀ j, j < m * sz → cells'[base + (a * sz + j)]? = cells[base + (s * sz + j)]?) :
    ∀ i x, (els.take a ++ (els.drop s).take m ++ els.drop (a + m))[i]? = some x → asz x = sz ∧ CAt ρ n (fun j => cells'[base + i * sz + j]?) x 0 := by
  have hl1 : (els.take a).length = a := by simp; omega
  have hl2 : ((els.drop s).take m).length = m := by simp; omega
  intro i x hx
  rcases Nat.lt_or_ge i a with q | q
  · rw [List.append_assoc, List.getElem?_append_left (by omega), List.getElem?_take_of_lt q] at hx
    obtain ⟨g1, g2⟩ := hcat i x hx
    refine ⟨g1, CAt_congr x 0 (fun j _ hj => ?_) g2⟩
    have r1 := rowIdx (l := 0) (sz := sz) q
    have r2 := rowIdx (l := 0) (sz := sz) (show i < els.length by omega)
    have := hout (i * sz + j) (by omega) (.inl (by omega))
    rw [Nat.add_assoc, this]
  rcases Nat.lt_or_ge i (a + m) with p | p
  · rw [List.append_assoc, List.getElem?_append_right (by omega), hl1, List.getElem?_append_left (by omega), List.getElem?_take_of_lt (by omega), List.getElem?_drop] at hx
    obtain ⟨g1, g2⟩ := hcat _ x hx
    refine ⟨g1, CAt_congr x 0 (fun j _ hj => ?_) g2⟩
    have r1 := rowIdx (l := 0) (sz := sz) (show i - a < m by omega)
    have := hin ((i - a) * sz + j) (by omega)
    have e1 : i * sz = a * sz + (i - a) * sz := by rw [← Nat.add_mul]; congr 1; omega
    rw [show base + i * sz + j = base + (a * sz + ((i - a) * sz + j)) by omega, this]
    congr 1
    rw [Nat.add_mul]; omega
  · rw [List.getElem?_append_right (by simp; omega)] at hx
    have hl3 : (els.take a ++ (els.drop s).take m).length = a + m := by simp; omega
    rw [hl3, List.getElem?_drop, show a + m + (i - (a + m)) = i by omega] at hx
    obtain ⟨g1, g2⟩ := hcat i x hx
    refine ⟨g1, CAt_congr x 0 (fun j _ hj => ?_) g2⟩
    have hi : i < els.length := by
      rcases Nat.lt_or_ge i els.length with q | q
      · exact q
      · rw [List.getElem?_eq_none q] at hx; cases hx
    have r2 := rowIdx (l := 0) (sz := sz) hi
    have r3 : (a + m) * sz ≤ i * sz := Nat.mul_le_mul_right _ p
    have := hout (i * sz + j) (by omega) (.inr (by omega))
    rw [Nat.add_assoc, this]

theorem row_len {els : List (List AV)} {a s m : Nat} (ha : a + m ≤ els.length) (hsm : s + m ≤ els.length) : (els.take a ++ (els.drop s).take m ++ els.drop (a + m)).length = els.length := by simp; omega

include hT hs in
theorem evAppIn_sound {ts : Array TypeId} {ty : TypeId} {b off len c off2 len2 : Nat} {cap2 : Option Nat} {c1 c2 : Value} {K : Kont} (h1 : VR ρ hp.length (.sl b off len (some c)) c1) (h2 : VR ρ hp.length (.sl b off2 len2 cap2) c2)
    (h : evAppIn T hp ts.toList b off len c off2 len2 K) : Res P w0 ρ hp w (Builtin.append_ ts ty #[c1, c2]) K := by
  unfold evAppIn at h
  split at h
  case h_2 => exact h.elim
  rename_i t t2 hts
  obtain rfl : ts = #[t, t2] := by cases ts; simp at hts; rw [hts]
  split at h
  case h_2 => exact h.elim
  rename_i e2 e ht2 ht
  split at h
  case h_2 => exact h.elim
  rename_i ei hei
  split at h
  case h_2 => exact h.elim
  rename_i g1 g2 g3
  have hsz : 0 < ei.sz := Nat.le_of_ble_eq_true g2
  have hb8 : ei.bys ≤ 8192 := Nat.le_of_ble_eq_true g3
  obtain ⟨en, hen, h⟩ := entK_sound h
  split at h
  case h_2 => exact h.elim
  rename_i els hro hez ho
  have hez' := Nat.eq_of_beq_eq_true hez
  obtain ⟨⟨l1, l2, l3, hroom⟩, h⟩ := h
  obtain ⟨hblt, hK⟩ := setObjK_sound h
  have hρz : (ρ b).esz = ei.sz := by rw [hs.esz b en hen, hez']
  have hob := hs.obj b en hen
  rw [ho, hro] at hob
  by_cases hlive : (AObj.row els).lv (ρ b) = true
  case neg =>
    -- nothing there: nothing is appended
    obtain ⟨hb, ad, cc, rfl, hlc, hcap, had⟩ := (by simpa only [VR] using h1 : b < hp.length ∧ ∃ ad cc, c1 = .slice ad len cc ∧ len ≤ cc ∧ (∀ q, some c = some q → cc = q) ∧ (cc = 0 ∨ (ad = some ⟨(ρ b).blk, (ρ b).base + off * (ρ b).esz, none⟩ ∧ (ρ b).base + (off + cc) * (ρ b).esz ≤ (ρ b).tot)))
    have hcc := hcap c rfl
    subst hcc
    have hem := lv_not hlive
    rcases hem with hg | ⟨hnr, hem⟩
    · cases hg
    have hnil : els = [] := by
      rcases hem with ⟨k, hk⟩ | hk
      · cases hk
      · cases hk; rfl
    subst hnil
    simp at l1 l2
    obtain ⟨⟨rfl, rfl⟩, rfl⟩ := l1
    obtain ⟨rfl, _⟩ := l2
    have hsrc : Src P w ei.sz c2 0 [] := by
      simp only [VR] at h2
      obtain ⟨_, ad2, cc2, rfl, _, _, _⟩ := h2
      refine ⟨by simp [Builtin.lenOf], by simp, by simp, fun w' _ => ?_⟩
      cases ad2 <;> simp [Builtin.firstCells, loadCells, loadCellsFrom]
    rcases run_append (P := P) (w := w) (ty := ty) (base := ad) (len := 0) (c := cc) (olds := []) hT ht hei (by rw [ht2]) hb8 hsz hsrc (by decide) (fun w' _ => by cases ad <;> simp [Builtin.firstCells, loadCells, loadCellsFrom]) (by simp) (Nat.zero_le _)
        (fun _ => ⟨w, by cases ad <;> rfl⟩) with ⟨w', _, q1, q2⟩ | ⟨c', cells, q1, _⟩
    · have hw : w' = w := by
        have h2 : (Result.ok () w : Result Unit) = Result.ok () w' := by rw [← q1]; cases ad <;> rfl
        cases h2; rfl
      subst hw
      have hd : ¬ (AObj.row ((([] : List (List AV)).take (0 + 0)) ++ (([] : List (List AV)).drop 0).take 0 ++ ([] : List (List AV)).drop (0 + 0 + 0))).lv (ρ b) = true := hlive
      refine ⟨_, _, _, ρ, w', hK, q2, ?_, hs.dull hen _ hd, by simp [dropV_length], fun _ _ => rfl⟩
      simp only [VR, List.length_set, dropV_length] at h1 ⊢
      exact h1
    · omega
  have hown := hs.own b en hen hro (by rw [ho]; exact hlive)
  obtain ⟨cells, cty, fz, q2, q3, q4, q5, q6⟩ := hob hlive
  rw [hρz] at q5 q6
  obtain ⟨hb, ad, cc, rfl, hlc, hcap, had⟩ := (by simpa only [VR] using h1 : b < hp.length ∧ ∃ ad cc, c1 = .slice ad len cc ∧ len ≤ cc ∧ (∀ q, some c = some q → cc = q) ∧ (cc = 0 ∨ (ad = some ⟨(ρ b).blk, (ρ b).base + off * (ρ b).esz, none⟩ ∧ (ρ b).base + (off + cc) * (ρ b).esz ≤ (ρ b).tot)))
  have hcc := hcap c rfl
  subst hcc
  have m1 : (off + len) * ei.sz + len2 * ei.sz ≤ els.length * ei.sz := by rw [← Nat.add_mul]; exact Nat.mul_le_mul_right _ l1
  have m2 : off2 * ei.sz + len2 * ei.sz ≤ els.length * ei.sz := by rw [← Nat.add_mul]; exact Nat.mul_le_mul_right _ l2
  rw [Nat.add_mul] at m1
  -- the piece that is appended
  have hcell : ∀ j, j < els.length * ei.sz → ∃ v, cells[(ρ b).base + j]? = some v ∧ v.oneCell' = true := by
    intro j hj
    have hi : j / ei.sz < els.length := (Nat.div_lt_iff_lt_mul hsz).2 hj
    obtain ⟨k1, k2⟩ := q6 (j / ei.sz) els[j / ei.sz] (List.getElem?_eq_getElem hi)
    obtain ⟨v, k3, k4⟩ := CAt_cell _ 0 (j % ei.sz) k2 (by omega) (by rw [k1, Nat.zero_add]; exact Nat.mod_lt _ hsz)
    refine ⟨v, ?_, k4⟩
    have := Nat.div_add_mod j ei.sz
    rw [Nat.mul_comm] at this
    rw [← k3]; congr 1; omega
  obtain ⟨news, hnl, hnews⟩ : ∃ news : List Value, news.length = len2 * ei.sz ∧ ∀ j, j < len2 * ei.sz → news[j]? = cells[(ρ b).base + (off2 * ei.sz + j)]? := by
    obtain ⟨cs, p1, p2, p3⟩ := run_cells (P := P) (o := (ρ b).base + off2 * ei.sz) (n := len2 * ei.sz) q2 (by omega)
    exact ⟨cs, p2, fun j hj => by rw [p3 j hj, Nat.add_assoc]⟩
  have hone : ∀ u ∈ news, u.oneCell' = true := by
    intro u hu
    obtain ⟨j, hj, hju⟩ := List.mem_iff_getElem.1 hu
    have e1 := hnews j (by omega)
    rw [List.getElem?_eq_getElem hj, hju] at e1
    obtain ⟨v, v1, v2⟩ := hcell (off2 * ei.sz + j) (by omega)
    rw [v1] at e1; cases e1; exact v2
  have hsrc : Src P w ei.sz c2 len2 news := by
    simp only [VR] at h2
    obtain ⟨_, ad2, cc2, rfl, e1, _, e3⟩ := h2
    rcases Nat.eq_zero_or_pos len2 with z | z
    · subst z
      have : news = [] := List.eq_nil_of_length_eq_zero (by rw [hnl, Nat.zero_mul])
      subst this
      refine ⟨by simp [Builtin.lenOf], by simp, by simp, fun w' _ => ?_⟩
      cases ad2 <;> simp [Builtin.firstCells, loadCells, loadCellsFrom]
    · rcases e3 with e3 | ⟨rfl, e3⟩
      · omega
      · refine src_slice hnl hone fun j v hj => ?_
        have hjl : j < len2 * ei.sz := by
          rcases Nat.lt_or_ge j news.length with q | q
          · omega
          · rw [List.getElem?_eq_none q] at hj; cases hj
        rw [addr_add, cell_of q2, ← hj, hnews j hjl, hρz, Nat.add_assoc]
  have hcc0 : ∀ {j}, j < len2 → cc ≠ 0 := fun h => by omega
  have hbase : 0 < len2 ∨ 0 < len → ad = some ⟨(ρ b).blk, (ρ b).base + off * ei.sz, none⟩ ∧ (ρ b).base + (off + cc) * ei.sz ≤ cells.size := by
    intro hh
    rcases had with g | ⟨g, g'⟩
    · omega
    · rw [hρz] at g g'; exact ⟨g, by rw [← q3]; exact g'⟩
  obtain ⟨olds, o1, o4⟩ : ∃ olds : List Value, olds.length = len * ei.sz ∧ ∀ w' : World, w'.heap = w.heap → (Builtin.firstCells ei.sz len (.slice ad len cc)).run P w' = .ok olds.toArray w' := by
    rcases Nat.eq_zero_or_pos len with z | z
    · subst z
      exact ⟨[], by simp, fun w' _ => by cases ad <;> simp [Builtin.firstCells, loadCells, loadCellsFrom]⟩
    · obtain ⟨g, _⟩ := hbase (.inr z)
      subst g
      obtain ⟨cs, p1, p2, p3⟩ := run_cells (P := P) (o := (ρ b).base + off * ei.sz) (n := len * ei.sz) q2 (by omega)
      refine ⟨cs, p2, fun w' hw' => ?_⟩
      have hw2 : w'.heap[(ρ b).blk]? = some (.cells cells cty fz) := by rw [hw']; exact q2
      obtain ⟨cs', d1, d2, d3⟩ := run_cells (P := P) (o := (ρ b).base + off * ei.sz) (n := len * ei.sz) hw2 (by omega)
      have : cs' = cs := by
        apply List.ext_getElem?
        intro j
        rcases Nat.lt_or_ge j (len * ei.sz) with p | p
        · rw [d3 j p, p3 j p]
        · rw [List.getElem?_eq_none (by omega), List.getElem?_eq_none (by omega)]
      subst this
      simp only [Builtin.firstCells]
      exact d1
  have hfits : (ρ b).base + off * ei.sz + len * ei.sz + news.length ≤ cells.size := by rw [hnl]; omega
  have hst : (match ad with | some a => storeCells (a.add (len * ei.sz)) news | none => pure ()).run P w = .ok () (w.setCells (ρ b).blk ((ρ b).base + off * ei.sz + len * ei.sz) news) := by
    rcases Nat.eq_zero_or_pos len2 with z | z
    · have : news = [] := List.eq_nil_of_length_eq_zero (by rw [hnl, z, Nat.zero_mul])
      subst this
      cases ad <;> rfl
    · obtain ⟨g, _⟩ := hbase (.inl z)
      subst g
      simp only
      rw [addr_add]
      exact store_cells q2 (q4 rfl) hfits hone
  rcases run_append (P := P) (w := w) (ty := ty) (base := ad) (len := len) (c := cc) (olds := olds) hT ht hei (by rw [ht2]) hb8 hsz hsrc hroom o4 o1 hlc (fun _ => ⟨_, hst⟩) with ⟨w', _, r1, r2⟩ | ⟨c', cells2, r1, _⟩
  · have r3 : (Result.ok () (w.setCells (ρ b).blk ((ρ b).base + off * ei.sz + len * ei.sz) news) : Result Unit) = Result.ok () w' := hst.symm.trans r1
    cases r3
    obtain ⟨cells', p1, p2, p3, p4, p5, p6, p7, p8, p9, p10⟩ := setCells_facts news (ρ b).blk ((ρ b).base + off * ei.sz + len * ei.sz) w cells cty fz q2 hfits
    have hobj : ObjOk ρ hp.length (w.setCells (ρ b).blk ((ρ b).base + off * ei.sz + len * ei.sz) news) (ρ b) false (.row (els.take (off + len) ++ (els.drop off2).take len2 ++ els.drop (off + len + len2))) := by
      intro _
      refine ⟨cells', cty, fz, p1, by rw [p2]; exact q3, fun _ => by rw [p2]; exact q4 rfl, ?_, ?_⟩
      · rw [row_len l1 l2, hρz, p2]; exact q5
      · rw [hρz]
        refine rows_splice q6 l1 l2 (fun j hj hjj => ?_) (fun j hj => ?_)
        · rw [p3]
          rw [hnl]
          rcases hjj with g | g
          · left; rw [Nat.add_mul] at g; omega
          · right; rw [Nat.add_mul, Nat.add_mul] at g; omega
        · have := p4 j (by omega)
          rw [← hnews j hj, ← this]
          congr 1
          rw [Nat.add_mul]; omega
    refine ⟨_, _, _, ρ, _, hK, r2, ?_, hs.set hen hro (by rw [ho]; exact hlive) _ p5 p6 p7 p8 p9 hobj, by simp [dropV_length], fun _ _ => rfl⟩
    simp only [VR, List.length_set, dropV_length]
    exact ⟨hb, ad, cc, rfl, l3, (fun q hq => by cases hq; rfl), had⟩
  · omega

include hT hs in
theorem evDelete_sound {ts : Array TypeId} {ty : TypeId} {m key : AV} {cm ck : Value} {K : Kont} (hm : VR ρ hp.length m cm) (hk : VR ρ hp.length key ck) (h : evDelete T hp ts.toList m key K) :
    Res P w0 ρ hp w (Builtin.delete_ ts ty #[cm, ck]) K := by
  unfold evDelete at h
  split at h
  case h_2 => exact h.elim
  rename_i t tr hts
  have ht0 : ts[0]? = some t := by
    have : ts.toList[0]? = some t := by rw [hts]; rfl
    simpa using this
  split at h
  case h_2 => exact h.elim
  rename_i b
  split at h
  case h_2 => exact h.elim
  rename_i kt et htd
  obtain ⟨k, n, xs, rfl, hK, hf, h⟩ := keyK_sound (P := P) h
  obtain ⟨en, hen, h⟩ := entK_sound h
  split at h
  case h_2 => exact h.elim
  rename_i k' n' es clock hro ho
  split at h
  case h_2 => exact h.elim
  rename_i q1 q2
  have q1 := of_decide_eq_true q1
  have q2 := Nat.eq_of_beq_eq_true q2
  subst q1 q2
  simp only [VR] at hm
  obtain ⟨hb, rfl⟩ := hm
  obtain ⟨rfl, hxl⟩ := key_of_VR hk
  obtain ⟨cs, hobj, hME⟩ := map_obj hs hen ho
  have hu := TOk.u_map hT htd
  have r1 : (getObj (ρ b).blk).run P w = .ok (.map cs.toArray clock) w := run_getObj_any hobj (fun _ _ _ e => by cases e)
  have r2 := fun em => run_checkKey_ints (w := w) hT hK hxl em
  have r3 := run_findKey_ints (w := w) hT hK hxl hME
  have r4 := fun o' => run_setObj_any (P := P) (o' := o') hobj (fun _ _ _ e => by cases e)
  obtain ⟨p1, p2⟩ := MEs_del (a := xs) hME
  unfold Res Builtin.delete_
  have a0 : (#[Value.map (some (ρ b).blk), keyV k xs] : Array Value)[0]? = some (.map (some (ρ b).blk)) := rfl
  have a1 : (#[Value.map (some (ρ b).blk), keyV k xs] : Array Value)[1]? = some (keyV k xs) := rfl
  simp only [ht0, a0, a1, Sem.run_bind, run_underlying hu, Result.andThen_ok, r1, r2, r3]
  rcases idxM_find (a := xs) hME with ⟨g1, g2⟩ | ⟨j, e, c, g1, g2, g3, g4, g5, g6⟩
  · rw [p1 g1] at h
    obtain ⟨hp', h1, h2, h3⟩ := map_turn hs hen ho hro hME h
    refine ⟨_, .tuple #[], hp', ρ, _, h1, ?_, by simp only [VR]; exact ⟨[], rfl, rfl⟩, h3, by omega, fun _ _ => rfl⟩
    simp [g1, Sem.run_bind, r4]
  · obtain ⟨hp', h1, h2, h3⟩ := map_turn hs hen ho hro (p2 j g1) h
    refine ⟨_, .tuple #[], hp', ρ, _, h1, ?_, by simp only [VR]; exact ⟨[], rfl, rfl⟩, h3, by omega, fun _ _ => rfl⟩
    have hjl : j < cs.length := by
      rcases Nat.lt_or_ge j cs.length with q | q
      · exact q
      · rw [List.getElem?_eq_none q] at g4; cases g4
    have he : cs.toArray.eraseIdxIfInBounds j = (cs.eraseIdx j).toArray := by simp [Array.eraseIdxIfInBounds, hjl]
    simp [g1, g4, Sem.run_bind, r4, he]

include hT hs in
theorem evMapLen_sound {ts : Array TypeId} {ty : TypeId} {b : Nat} {cm : Value} {K : Kont} (hm : VR ρ hp.length (.mp b) cm) (h : evMapLen T hp ts.toList b K) : Res P w0 ρ hp w (Builtin.len_ ts ty #[cm]) K := by
  unfold evMapLen at h
  split at h
  case h_2 => exact h.elim
  rename_i t tr hts
  have ht0 : ts[0]? = some t := by
    have : ts.toList[0]? = some t := by rw [hts]; rfl
    simpa using this
  split at h
  case h_2 => exact h.elim
  rename_i kt et htd
  obtain ⟨en, hen, h⟩ := entK_sound h
  split at h
  case h_2 => exact h.elim
  rename_i k n es clock ho
  simp only [VR] at hm
  obtain ⟨hb, rfl⟩ := hm
  obtain ⟨cs, hobj, hME⟩ := map_obj hs hen ho
  have hu := TOk.u_map hT htd
  have r1 : (getObj (ρ b).blk).run P w = .ok (.map cs.toArray clock) w := run_getObj_any hobj (fun _ _ _ e => by cases e)
  have hl := MEs_len hME
  refine Res.same hs h (cv := goInt (es.length : Int)) ?_ (by simp only [VR]; rfl)
  simp [Builtin.len_, ht0, run_underlying hu, r1, hl]

/-- rows, some of which were overwritten by others -/
theorem rows_fill {n base sz : Nat} {cells cells' : Array Value} {els : List (List AV)} {a m : Nat} {z : List AV} (hcat : ∀ i x, els[i]? = some x → asz x = sz ∧ CAt ρ n (fun j => cells[base + i * sz + j]?) x 0) (ha : a + m ≤ els.length)
    (hout : ∀ j, j < els.length * sz → (j < a * sz ∨ (a + m) * sz ≤ j) → cells'[base + j]? = cells[base + j]?) (hz : asz z = sz) (hin : ∀ i, i < m → CAt ρ n (fun j => cells'[base + (a + i) * sz + j]?) z 0) :
    ∀ i x, (els.take a ++ List.replicate m z ++ els.drop (a + m))[i]? = some x → asz x = sz ∧ CAt ρ n (fun j => cells'[base + i * sz + j]?) x 0 := by
  have hl1 : (els.take a).length = a := by simp; omega
  intro i x hx
  rcases Nat.lt_or_ge i a with q | q
  · rw [List.append_assoc, List.getElem?_append_left (by omega), List.getElem?_take_of_lt q] at hx
    obtain ⟨g1, g2⟩ := hcat i x hx
    refine ⟨g1, CAt_congr x 0 (fun j _ hj => ?_) g2⟩
    have r1 := rowIdx (l := 0) (sz := sz) q
    have r2 := rowIdx (l := 0) (sz := sz) (show i < els.length by omega)
    have := hout (i * sz + j) (by omega) (.inl (by omega))
    rw [Nat.add_assoc, this]
  rcases Nat.lt_or_ge i (a + m) with p | p
  · rw [List.append_assoc, List.getElem?_append_right (by omega), hl1, List.getElem?_append_left (by simp; omega), List.getElem?_replicate, if_pos (by omega)] at hx
    cases hx
    refine ⟨hz, ?_⟩
    have := hin (i - a) (by omega)
    rw [show a + (i - a) = i by omega] at this
    exact this
  · have hl3 : (els.take a ++ List.replicate m z).length = a + m := by simp; omega
    rw [List.getElem?_append_right (by omega), hl3, List.getElem?_drop, show a + m + (i - (a + m)) = i by omega] at hx
    obtain ⟨g1, g2⟩ := hcat i x hx
    refine ⟨g1, CAt_congr x 0 (fun j _ hj => ?_) g2⟩
    have hi : i < els.length := by
      rcases Nat.lt_or_ge i els.length with q | q
      · exact q
      · rw [List.getElem?_eq_none q] at hx; cases hx
    have r2 := rowIdx (l := 0) (sz := sz) hi
    have r3 : (a + m) * sz ≤ i * sz := Nat.mul_le_mul_right _ p
    have := hout (i * sz + j) (by omega) (.inr (by omega))
    rw [Nat.add_assoc, this]

include hT hs in
theorem evClear_sound {ts : Array TypeId} {ty : TypeId} {x : AV} {cx : Value} {K : Kont} (hx : VR ρ hp.length x cx) (h : evClear T hp ts.toList x K) : Res P w0 ρ hp w (Builtin.clear_ ts ty #[cx]) K := by
  unfold evClear at h
  split at h
  case h_2 => exact h.elim
  rename_i t tr hts
  have ht0 : ts[0]? = some t := by
    have : ts.toList[0]? = some t := by rw [hts]; rfl
    simpa using this
  split at h
  case h_2 => exact h.elim
  rename_i b off len cap
  split at h
  case h_2 => exact h.elim
  rename_i e ht
  split at h
  case h_2 => exact h.elim
  rename_i ei hei
  obtain ⟨en, hen, h⟩ := entK_sound h
  split at h
  case h_2 => exact h.elim
  rename_i els hro hez ho
  have hez' := Nat.eq_of_beq_eq_true hez
  obtain ⟨l1, h⟩ := h
  obtain ⟨hblt, hK⟩ := setObjK_sound h
  have hρz : (ρ b).esz = ei.sz := by rw [hs.esz b en hen, hez']
  have hob := hs.obj b en hen
  rw [ho, hro] at hob
  simp only [VR] at hx
  obtain ⟨hb, ad, c, rfl, hlc, hcap, had⟩ := hx
  have hu := hT.u_slice ht
  rcases Nat.eq_zero_or_pos len with z | z
  · -- nothing is cleared
    subst z
    have hsame : els.take off ++ List.replicate 0 ei.z ++ els.drop (off + 0) = els := by simp
    rw [hsame] at hK
    have hset : HSat w0 ρ ((dropV b hp).set b ⟨en.esz, en.ro, en.par, .row els⟩) w := by
      by_cases hlive : (AObj.row els).lv (ρ b) = true
      · exact hs.set hen hro (by rw [ho]; exact hlive) _ (fun _ _ => rfl) rfl rfl rfl rfl hob
      · exact hs.dull hen _ hlive
    refine ⟨_, .tuple #[], _, ρ, w, hK, ?_, by simp only [VR]; exact ⟨[], rfl, rfl⟩, hset, by simp [dropV_length], fun _ _ => rfl⟩
    cases ad <;> simp [Builtin.clear_, ht0, run_underlying hu]
  · rcases had with g | ⟨rfl, htot⟩
    · omega
    have hlive : (AObj.row els).lv (ρ b) = true := lv_row (i := off) (by omega)
    obtain ⟨cells, cty, fz, q2, q3, q4, q5, q6⟩ := hob hlive
    rw [hρz] at q5 q6 htot ⊢
    obtain ⟨zv, hz1, hz2, hz3, hz4⟩ := hT.zero hei w
    have hasz : asz ei.z = ei.sz := by rw [← hz3, ← hz2.2]; simp
    have m1 : off * ei.sz + len * ei.sz ≤ els.length * ei.sz := by rw [← Nat.add_mul]; exact Nat.mul_le_mul_right _ l1
    obtain ⟨news, hnews⟩ : ∃ news, (Builtin.zeroCells zv.cells len).toList = news := ⟨_, rfl⟩
    have hnl : news.length = len * ei.sz := by rw [← hnews]; simp [Builtin.zeroCells, hz3]
    have hsz : 0 < ei.sz ∨ ei.sz = 0 := by omega
    have hget : ∀ i j, i < len → j < ei.sz → news[i * ei.sz + j]? = zv.cells[j]? := by
      intro i j hi hj
      have r1 := rowIdx (l := 0) (sz := ei.sz) hi
      rw [← hnews]
      simp only [Builtin.zeroCells, Array.getElem?_toList]
      rw [zeros_get (by rw [hz3]; omega) (by rw [hz3]; omega), hz3]
      congr 1
      rw [Nat.add_comm, Nat.add_mul_mod_self_right, Nat.mod_eq_of_lt hj]
    have hcz : ∀ n', CAt ρ n' (fun j => zv.cells[j]?) ei.z 0 := fun n' => by simpa using hz2.1 ρ n'
    have hone : ∀ u ∈ news, u.oneCell' = true := by
      intro u hu
      obtain ⟨j, hj, hju⟩ := List.mem_iff_getElem.1 hu
      have hjl : j < len * ei.sz := by omega
      have hp0 : 0 < ei.sz := by
        rcases hsz with g | g
        · exact g
        · rw [g] at hjl; omega
      have hi : j / ei.sz < len := (Nat.div_lt_iff_lt_mul hp0).2 hjl
      have hjm : j % ei.sz < ei.sz := Nat.mod_lt _ hp0
      have e0 := Nat.div_add_mod j ei.sz
      rw [Nat.mul_comm] at e0
      have e1 := hget (j / ei.sz) (j % ei.sz) hi hjm
      rw [e0, List.getElem?_eq_getElem hj, hju] at e1
      obtain ⟨v, v1, v2⟩ := CAt_cell _ 0 (j % ei.sz) (hcz 0) (by omega) (by omega)
      rw [v1] at e1; cases e1; exact v2
    have hfits : (ρ b).base + off * ei.sz + news.length ≤ cells.size := by rw [hnl]; omega
    have hst := store_cells (P := P) q2 (q4 rfl) hfits hone
    obtain ⟨cells', p1, p2, p3, p4, p5, p6, p7, p8, p9, p10⟩ := setCells_facts news (ρ b).blk ((ρ b).base + off * ei.sz) w cells cty fz q2 hfits
    have hobj : ObjOk ρ hp.length (w.setCells (ρ b).blk ((ρ b).base + off * ei.sz) news) (ρ b) false (.row (els.take off ++ List.replicate len ei.z ++ els.drop (off + len))) := by
      intro _
      refine ⟨cells', cty, fz, p1, by rw [p2]; exact q3, fun _ => by rw [p2]; exact q4 rfl, ?_, ?_⟩
      · have : (els.take off ++ List.replicate len ei.z ++ els.drop (off + len)).length = els.length := by simp; omega
        rw [this, hρz, p2]; exact q5
      · rw [hρz]
        refine rows_fill q6 l1 (fun j hj hjj => ?_) hasz (fun i hi => ?_)
        · rw [p3]
          rw [hnl]
          rcases hjj with g | g
          · left; omega
          · right; rw [Nat.add_mul] at g; omega
        · refine CAt_congr _ 0 (fun j _ hj => ?_) (hcz hp.length)
          have r1 := rowIdx (l := 0) (sz := ei.sz) hi
          show cells'[(ρ b).base + (off + i) * ei.sz + j]? = _
          rw [← hget i j hi (by omega), ← p4 _ (by omega)]
          congr 1
          rw [Nat.add_mul]; omega
    refine ⟨_, .tuple #[], _, ρ, _, hK, ?_, by simp only [VR]; exact ⟨[], rfl, rfl⟩, hs.set hen hro (by rw [ho]; exact hlive) _ p5 p6 p7 p8 p9 hobj, by simp [dropV_length], fun _ _ => rfl⟩
    have hl0 : ∀ (k : Nat), len = k + 1 → True := fun _ _ => trivial
    obtain ⟨l', rfl⟩ : ∃ l', len = l' + 1 := ⟨len - 1, by omega⟩
    simp only [Builtin.clear_, ht0, List.getElem?_toArray, List.getElem?_cons_zero, Sem.run_bind, run_underlying hu, Result.andThen_ok, hz1]
    rw [hnews]
    simp only [hst, Result.andThen_ok, Sem.run_pure]

include hT hs in
theorem evBuilt_sound {bi : Builtin} {ts : Array TypeId} {ty : TypeId} {args : List AV} {cs : List Value} {K : Kont} {consts : Array Bool} (ha : VRs ρ hp.length args cs) (h : evBuilt T hp bi ts.toList args K) :
    ∃ v cv hp' ρ' w', K v hp' ∧ (builtin bi ts ty consts cs.toArray).run P w = .ok (.value cv) w' ∧ VR ρ' hp'.length v cv ∧ HSat w0 ρ' hp' w' ∧ hp.length ≤ hp'.length ∧ ∀ b, b < hp.length → ρ' b = ρ b := by
  have lift : ∀ (s : Sem Value), Res P w0 ρ hp w s K → (builtin bi ts ty consts cs.toArray).run P w = (do pure (Next.value (← s))).run P w →
      ∃ v cv hp' ρ' w', K v hp' ∧ (builtin bi ts ty consts cs.toArray).run P w = .ok (.value cv) w' ∧ VR ρ' hp'.length v cv ∧ HSat w0 ρ' hp' w' ∧ hp.length ≤ hp'.length ∧ ∀ b, b < hp.length → ρ' b = ρ b := by
    rintro s ⟨v, cv, hp', ρ', w', k1, k2, k3, k4, k5, k6⟩ he
    refine ⟨v, cv, hp', ρ', w', k1, ?_, k3, k4, k5, k6⟩
    rw [he]; simp [k2]
  unfold evBuilt at h
  split at h
  · split at h
    · rename_i b1 o1 l1 c1 b2 o2 l2 c2
      split at h
      · rename_i hb
        split at h
        · have hb := Nat.eq_of_beq_eq_true hb
          subst hb
          simp only [VRs] at ha
          obtain ⟨cx, cr, rfl, hx, cy, cr', rfl, hy, rfl⟩ := ha
          exact lift (Builtin.append_ ts ty #[cx, cy]) (evAppIn_sound hT hs hx hy h) rfl
        · exact evBuiltin_sound hT hs ha h
      · exact evBuiltin_sound hT hs ha h
    · exact evBuiltin_sound hT hs ha h
  · split at h
    · simp only [VRs] at ha
      obtain ⟨cx, cr, rfl, hx, rfl⟩ := ha
      exact lift (Builtin.len_ ts ty #[cx]) (evMapLen_sound hT hs hx h) rfl
    · exact evBuiltin_sound hT hs ha h
  · split at h
    case h_2 => exact h.elim
    simp only [VRs] at ha
    obtain ⟨cx, cr, rfl, hx, cy, cr', rfl, hy, rfl⟩ := ha
    exact lift (Builtin.delete_ ts ty #[cx, cy]) (evDelete_sound hT hs hx hy h) rfl
  · split at h
    case h_2 => exact h.elim
    simp only [VRs] at ha
    obtain ⟨cx, cr, rfl, hx, rfl⟩ := ha
    exact lift (Builtin.clear_ ts ty #[cx]) (evClear_sound hT hs hx h) rfl
  · exact evBuiltin_sound hT hs ha h

include hT hs in
theorem evMakeMap_sound {t kt et e : TypeId} {n : Nat} {k : IntKind} {K : Kont} (h1 : td T t = .map kt et) (h2 : td T kt = .array n e) (h3 : td T e = .int k) (h : newEntK ⟨0, false, none, .map k n [] 0⟩ hp fun b hp' => K (.mp b) hp') :
    Res P w0 ρ hp w (Instr.makeMap t none) K := by
  have hK := newEntK_sound _ h
  have q := hs.push (.map #[] 0) { w with heap := w.heap.push (.map #[] 0) } rfl rfl rfl rfl
  refine ⟨_, .map (some w.heap.size), _, upd ρ hp.length ⟨w.heap.size, 0, 0, 0⟩, { w with heap := w.heap.push (.map #[] 0) }, hK, ?_, ?_, ?_, by simp, fun b hb => upd_lt hb⟩
  · simp [Instr.makeMap]
  · simp only [VR, List.length_append, List.length_singleton, upd_self]
    exact ⟨by omega, trivial⟩
  · refine q.add _ _ rfl rfl rfl (fun _ => ⟨fun g => by have := hs.size _ g; simp only at this; omega, by simp⟩) (fun _ b' x hx hr hl => ?_) ?_
    · have := hs.own b' x hx hr hl
      simp only; omega
    · exact ⟨[], by simp, rfl⟩
end
end Go.Aw
end

section
/-
  AwJ: one operation of the evaluator does what the model does. Own work of this session.
-/
set_option linter.unusedVariables false
set_option linter.unusedSimpArgs false
namespace Go.Aw

section
variable {P : Program} {T : Tab} (hT : TOk P T) {w0 : Base} {w : World} {ρ : Nat → Loc} {hp : Hp} (hs : HSat w0 ρ hp w)

/-- what an operation brings -/
def NRes (P : Program) (w0 : Base) (ρ : Nat → Loc) (hp : Hp) (w : World) (s : Sem Next) (K : Kont) : Prop :=
  ∃ v cv hp' ρ' w', K v hp' ∧ (s.run P w = .ok (.value cv) w' ∨ (s.run P w = .ok .skip w' ∧ cv = undef)) ∧ VR ρ' hp'.length v cv ∧ HSat w0 ρ' hp' w' ∧ hp.length ≤ hp'.length ∧ ∀ b, b < hp.length → ρ' b = ρ b

theorem NRes.of_res {s : Sem Value} {K : Kont} (h : Res P w0 ρ hp w s K) : NRes P w0 ρ hp w (do pure (.value (← s))) K := by
  obtain ⟨v, cv, hp', ρ', w', k1, k2, k3, k4, k5, k6⟩ := h
  exact ⟨v, cv, hp', ρ', w', k1, .inl (by simp [k2]), k3, k4, k5, k6⟩

theorem NRes.of_same {s : Sem Value} {K : Kont} (hs : HSat w0 ρ hp w) (h : ∃ v cv, K v hp ∧ s.run P w = .ok cv w ∧ VR ρ hp.length v cv) : NRes P w0 ρ hp w (do pure (.value (← s))) K := by
  obtain ⟨v, cv, k1, k2, k3⟩ := h
  exact .of_res (Res.same hs k1 k2 k3)

theorem NRes.pure {K : Kont} {v : AV} {cv : Value} (hs : HSat w0 ρ hp w) (h : K v hp) (hv : VR ρ hp.length v cv) : NRes P w0 ρ hp w (pure (.value cv)) K :=
  ⟨v, cv, hp, ρ, w, h, .inl (by simp), hv, hs, Nat.le_refl _, fun _ _ => rfl⟩

include hT hs
theorem evOp_sound {fr : Fr} {a : Act} {o : Oper} {op : Op} {K : Kont} (hop : o.op = op) (hf : FSat ρ hp.length fr a.tmps) (h : evOp T fr hp op K) : NRes P w0 ρ hp w (execOp a.eval o) K := by
  unfold evOp at h
  unfold execOp
  rw [hop]
  split at h <;> dsimp only
  · obtain ⟨v, h1, h2⟩ := avK_sound hf h; exact .pure hs h1 h2
  · obtain ⟨v, h1, h2⟩ := avK_sound hf h; exact .pure hs h1 h2
  · obtain ⟨g, h1, h2⟩ := avK_sound hf h
    split at h1
    case h_2 => exact h1.elim
    rename_i g
    simp only [VR] at h2
    rw [h2]
    split at h1
    · obtain ⟨v, h3, h4⟩ := avK_sound hf h1
      simpa [asBool] using NRes.pure (P := P) hs h3 h4
    · obtain ⟨v, h3, h4⟩ := avK_sound hf h1
      simpa [asBool] using NRes.pure (P := P) hs h3 h4
  · split at h
    case h_2 => exact h.elim
    rename_i i ht
    exact .of_res (evAlloc_sound hT hs ht h)
  · split at h
    case h_2 => exact h.elim
    rename_i i ht
    obtain ⟨v, h1, h2⟩ := avK_sound hf h
    split at h1
    case h_2 => exact h1.elim
    rename_i q1 q2
    exact .of_res (evBox_sound hs h2 (Nat.eq_of_beq_eq_true q1) q2 h1)
  · obtain ⟨ps, h1, h2⟩ := avpK_sound hf h
    exact .of_same hs (evBuild_sound hT (by simpa using h2) h1)
  · obtain ⟨ps, h1, h2⟩ := avpK_sound hf h
    exact .of_res (evBuildSlice_sound hT hs (by simpa using h2) h1)
  · obtain ⟨l, h1, h2⟩ := avK_sound hf h
    obtain ⟨c, h3, h4⟩ := avK_sound hf h1
    exact .of_res (evMakeSlice_sound hT hs h2 h4 h3)
  · obtain ⟨l, h1, h2⟩ := avK_sound hf h
    exact .of_same hs (evLoad_sound hT hs h2 h1)
  · obtain ⟨l, h1, h2⟩ := avK_sound hf h
    obtain ⟨c, h3, h4⟩ := avK_sound hf h1
    obtain ⟨hp', w', q1, q2, q3, q4⟩ := evStore_sound hT hs h2 h4 h3
    exact ⟨_, undef, hp', ρ, w', q1, .inr ⟨by simp [q2], rfl⟩, by simp only [VR], q3, by omega, fun _ _ => rfl⟩
  · obtain ⟨x, h1, h2⟩ := avK_sound hf h
    split at h1
    · have h2' := h2
      simp only [VR] at h2'
      rw [h2'.2]
      refine NRes.pure hs h1 ?_
      rw [← h2'.2]; exact h2
    · have h2' := h2
      simp only [VR] at h2'
      obtain ⟨cs, h3, h4⟩ := h2'
      rw [h3]
      refine NRes.pure hs h1 ?_
      rw [← h3]; exact h2
    · exact h1.elim
  · obtain ⟨l, h1, h2⟩ := avK_sound hf h
    obtain ⟨c, h3, h4⟩ := avK_sound hf h1
    rename_i t x y _ 
    exact .of_same hs (evBin_sound (x := x) (y := y) hT h2 h4 h3)
  · obtain ⟨l, h1, h2⟩ := avK_sound hf h
    exact .of_same hs (evUn_sound h2 h1)
  · obtain ⟨l, h1, h2⟩ := avK_sound hf h
    exact .of_res (evConv_sound hT hs h2 h1)
  · rename_i f first caps
    split at h
    case h_2 => exact h.elim
    rename_i f hfirst
    obtain ⟨cs, h1, h2⟩ := avsK_sound hf h
    have hfe : first = #[] := by
      cases first with | mk l => simp at hfirst; rw [hfirst]
    subst hfe
    refine .of_same hs ⟨_, .func (.func f) #[] (caps.map a.eval), h1, by simp [Instr.makeFunc], ?_⟩
    simp only [VR]
    exact ⟨_, by rw [← Array.toList_map], h2⟩
  · split at h
    · obtain ⟨x, h1, h2⟩ := avK_sound hf h
      obtain ⟨lo, h3, h4⟩ := avoK_sound hf h1
      obtain ⟨hi, h5, h6⟩ := avoK_sound hf h3
      exact .of_res (evSlice_sound hT hs h2 h4 h6 h5)
    · obtain ⟨x, h1, h2⟩ := avK_sound hf h
      obtain ⟨lo, h3, h4⟩ := avoK_sound hf h1
      obtain ⟨hi, h5, h6⟩ := avoK_sound hf h3
      obtain ⟨mx, h7, h8⟩ := avK_sound hf h5
      exact .of_res (evSlice3_sound hT hs h2 h4 h6 h8 h7)
  · obtain ⟨l, h1, h2⟩ := avK_sound hf h
    exact .of_same hs (evFieldAddr_sound hT h2 h1)
  · obtain ⟨l, h1, h2⟩ := avK_sound hf h
    exact .of_same hs (evField_sound hT h2 h1)
  · obtain ⟨l, h1, h2⟩ := avK_sound hf h
    obtain ⟨c, h3, h4⟩ := avK_sound hf h1
    exact .of_same hs (evIndexAddr_sound hT hs h2 h4 h3)
  · obtain ⟨l, h1, h2⟩ := avK_sound hf h
    obtain ⟨c, h3, h4⟩ := avK_sound hf h1
    exact .of_same hs (evIndex_sound hT h2 h4 h3)
  · obtain ⟨l, h1, h2⟩ := avK_sound hf h
    split at h1
    case h_2 => exact h1.elim
    rename_i i vs
    split at h1
    case h_2 => exact h1.elim
    rename_i v hv
    simp only [VR] at h2
    obtain ⟨cs, h3, h4⟩ := h2
    have : ∀ (vs : List AV) (cs : List Value) (i : Nat), VRs ρ hp.length vs cs → vs[i]? = some v → ∃ c, cs[i]? = some c ∧ VR ρ hp.length v c := by
      intro vs
      induction vs with
      | nil => intro cs i _ h; simp at h
      | cons x r ih =>
        intro cs i h hi
        simp only [VRs] at h
        obtain ⟨c, cr, rfl, g1, g2⟩ := h
        cases i with
        | zero => simp at hi; subst hi; exact ⟨c, by simp, g1⟩
        | succ i => simp at hi; obtain ⟨c', g3, g4⟩ := ih cr i g2 hi; exact ⟨c', by simpa using g3, g4⟩
    obtain ⟨c, h5, h6⟩ := this vs cs _ h4 hv
    refine .of_same hs ⟨v, c, h1, ?_, h6⟩
    rw [h3]
    simp [Instr.extract, h5]
  · rename_i c
    split at h
    case h_2 => exact h.elim
    rename_i b hb
    obtain ⟨cs, h1, h2⟩ := avsK_sound hf h
    obtain ⟨v, cv, hp', ρ', w', k1, k2, k3, k4, k5, k6⟩ := evBuilt_sound hT hs (ty := o.type) (consts := c.args.map fun | .const _ => true | _ => false) h2 h1
    refine ⟨v, cv, hp', ρ', w', k1, .inl ?_, k3, k4, k5, k6⟩
    have e1 : (c.args.map a.eval) = (c.args.toList.map a.eval).toArray := by rw [← Array.toList_map]
    rw [← k2, e1.symm]
    simp [resolve, hb, invoke]
    rfl
  · split at h
    case h_2 => exact h.elim
    split at h
    case h_2 => exact h.elim
    rename_i q1
    split at h
    case h_2 => exact h.elim
    rename_i q2
    split at h
    case h_2 => exact h.elim
    rename_i q3
    exact .of_res (evMakeMap_sound hT hs q1 q2 q3 h)
  · obtain ⟨m, h1, h2⟩ := avK_sound hf h
    obtain ⟨k, h3, h4⟩ := avK_sound hf h1
    exact .of_same hs (evLookup_sound hT hs h2 h4 h3)
  · obtain ⟨m, h1, h2⟩ := avK_sound hf h
    obtain ⟨k, h3, h4⟩ := avK_sound hf h1
    obtain ⟨v, h5, h6⟩ := avK_sound hf h3
    obtain ⟨hp', w', q1, q2, q3, q4⟩ := evMapUpdate_sound hT hs h2 h4 h6 h5
    exact ⟨_, undef, hp', ρ, w', q1, .inr ⟨by simp [q2], rfl⟩, by simp only [VR], q3, by omega, fun _ _ => rfl⟩
  · obtain ⟨m, h1, h2⟩ := avK_sound hf h
    obtain ⟨k, h3, h4⟩ := avK_sound hf h1
    exact .of_res (evMapEntry_sound hT hs h2 h4 h3)
  · obtain ⟨m, h1, h2⟩ := avK_sound hf h
    obtain ⟨k, h3, h4⟩ := avK_sound hf h1
    obtain ⟨v, h5, h6⟩ := avK_sound hf h3
    rename_i t _ _ _
    obtain ⟨hp', w', q1, q2, q3, q4⟩ := evEntryStore_sound (P := P) (t := t) hs h2 h4 h6 h5
    exact ⟨_, undef, hp', ρ, w', q1, .inr ⟨by simp [q2], rfl⟩, by simp only [VR], q3, by omega, fun _ _ => rfl⟩
  · obtain ⟨m, h1, h2⟩ := avK_sound hf h
    exact .of_res (evRange_sound hT hs h2 h1)
  · split at h
    case h_2 => exact h.elim
    obtain ⟨it, h1, h2⟩ := avK_sound hf h
    exact .of_res (evNext_sound hs h2 h1)
  · obtain ⟨it, h1, h2⟩ := avK_sound hf h
    exact .of_same hs (evEntry_sound hs h2 h1)
  · exact h.elim
end
end Go.Aw
end

section
/-
  AwK: a region, and a piece of code, do what the evaluator says. Own work of this session.
-/
set_option linter.unusedVariables false
set_option linter.unusedSimpArgs false
namespace Go.Aw

section
variable {P : Program} {T : Tab} (hT : TOk P T) {N M : Nat}

theorem put_size (a : Act) (d : Option Tmp) (v : Value) : (a.put d v).tmps.size = a.tmps.size := by
  cases d <;> simp [Act.put]
theorem put_defers (a : Act) (d : Option Tmp) (v : Value) : (a.put d v).defers = a.defers := by
  cases d <;> simp [Act.put]

theorem dstK_sound {ρ : Nat → Loc} {n : Nat} {a : Act} {d : Option Nat} {v : AV} {cv : Value} {fr : Fr} {K : Fr → Prop} (hN : a.tmps.size = N) (hv : VR ρ n v cv) (hf : FSat ρ n fr a.tmps) (h : dstK d v N fr K) :
    ∃ fr', K fr' ∧ FSat ρ n fr' (a.put d cv).tmps := by
  cases d with
  | none => exact ⟨fr, h, by simpa [Act.put] using hf⟩
  | some d =>
    simp only [dstK] at h
    split at h
    case h_2 => exact h.elim
    rename_i hd
    have hd' : d < a.tmps.size := by rw [hN]; simpa using hd
    simpa [Act.put] using putK_sound hd' hv hf h

/-- what an operation of a region does: it brings a value, or calls -/
theorem evOper_sound (hT : TOk P T) {w0 : Base} {w : World} {ρ : Nat → Loc} {hp : Hp} (hs : HSat w0 ρ hp w) {fr : Fr} {a : Act} {o : Oper} {K : Kont} {next : Act → World → Prop} {Q : Exit → Act → World → Prop}
    (hf : FSat ρ hp.length fr a.tmps) (h : evOper (AC P) T fr hp o.op K)
    (hn : ∀ v cv hp' ρ' w', K v hp' → VR ρ' hp'.length v cv → HSat w0 ρ' hp' w' → hp.length ≤ hp'.length → (∀ b, b < hp.length → ρ' b = ρ b) → next (a.put o.dst cv) w') :
    o.wp P a w next Q := by
  have plain : evOp T fr hp o.op K → o.wp P a w next Q := by
    intro h
    obtain ⟨v, cv, hp', ρ', w', k1, k2, k3, k4, k5, k6⟩ := evOp_sound hT hs rfl hf h
    unfold Oper.wp
    rcases k2 with k2 | ⟨k2, rfl⟩
    · rw [k2]; exact hn _ _ _ _ _ k1 k3 k4 k5 k6
    · rw [k2]; exact hn _ _ _ _ _ k1 k3 k4 k5 k6
  unfold evOper at h
  split at h
  · rename_i c hc
    split at h
    · rename_i f hcal
      obtain ⟨fv, h1, h2⟩ := avK_sound hf h
      split at h1
      case h_2 => exact h1.elim
      rename_i g caps
      obtain ⟨as, h3, h4⟩ := avsK_sound hf h1
      have h5 := appK_sound h3
      simp only [VR] at h2
      obtain ⟨cs, h6, h7⟩ := h2
      unfold AC at h5
      obtain ⟨⟨fn, q1, q2, q3⟩, h5⟩ := h5
      have h8 := VRs_append h4 h7
      have h9 := h5 w0 ρ w _ hs h8
      unfold Oper.wp execOp
      rw [hc]
      have e1 : c.args.map a.eval ++ cs.toArray = (c.args.toList.map a.eval ++ cs).toArray := by
        rw [← Array.toList_map]; simp
      have e2 : (do let d ← resolve a.eval c o.type; invoke d.target d.args : Sem Next).run P w = .ok (.enter g (c.args.toList.map a.eval ++ cs).toArray) w := by
        simp only [resolve, hcal, h6, Deferred.ofValue, Sem.run_bind, Sem.run_pure, Result.andThen_ok, invoke, callFunc, run_program, q1, q2, q3]
        simp [← e1]
      dsimp only
      rw [e2]
      simp only [Oper.upon]
      refine h9.mono ?_
      rintro e w' ⟨r, v, hp', ρ', rfl, k1, k2, k3, k4, k5⟩
      exact hn _ _ _ _ _ k1 k2 k3 k4 k5
    · rename_i hcal
      rw [← hc] at h
      exact plain h
  · exact plain h

theorem evOps_sound (hT : TOk P T) {all : Array Oper} {K : Fr → Hp → Prop} {w0 : Base} {ρ0 : Nat → Loc} {Q : Exit → Act → World → Prop}
    (hQ : ∀ a w fr hp ρ, K fr hp → HSat w0 ρ hp w → FSat ρ hp.length fr a.tmps → a.tmps.size = N → a.defers = w0.ds → M ≤ hp.length → (∀ b, b < M → ρ b = ρ0 b) → Q .normal a w) :
    ∀ (l : List Nat) (rest : List Oper), l.map (fun i => all[i]?) = rest.map some → ∀ (fr : Fr) (hp : Hp) (ρ : Nat → Loc) (a : Act) (w : World), evOps (AC P) T N all rest fr hp K →
      HSat w0 ρ hp w → FSat ρ hp.length fr a.tmps → a.tmps.size = N → a.defers = w0.ds → M ≤ hp.length → (∀ b, b < M → ρ b = ρ0 b) → wpOps P all Q l a w
  | [], [], _, fr, hp, ρ, a, w, h, hs, hf, hN, hd, hM, hρ => by
    simp only [evOps] at h
    exact hQ a w fr hp ρ h hs hf hN hd hM hρ
  | [], _ :: _, hl, _, _, _, _, _, _, _, _, _, _, _, _ => by simp at hl
  | _ :: _, [], hl, _, _, _, _, _, _, _, _, _, _, _, _ => by simp at hl
  | i :: l, o :: rest, hl, fr, hp, ρ, a, w, h, hs, hf, hN, hd, hM, hρ => by
    simp only [List.map_cons, List.cons.injEq] at hl
    obtain ⟨hi, hl⟩ := hl
    simp only [wpOps, hi]
    have go : evOper (AC P) T fr hp o.op (fun v hp' => dstK o.dst v N fr fun fr' => evOps (AC P) T N all rest fr' hp' K) → o.wp P a w (wpOps P all Q l) Q := by
      intro h
      refine evOper_sound hT hs hf h fun v cv hp' ρ' w' k1 k2 k3 k4 k5 => ?_
      obtain ⟨fr', k6, k7⟩ := dstK_sound hN k2 (FSat_mono k4 k5 hf) k1
      exact evOps_sound hT hQ l rest hl fr' hp' ρ' _ _ k6 k3 k7 (by rw [put_size]; exact hN) (by rw [put_defers]; exact hd) (by omega) (fun b hb => by rw [k5 b (by omega)]; exact hρ b hb)
    simp only [evOps, evStep] at h
    split at h
    · rename_i hg
      have : Region.wanted o (yielded all a.tmps) = true := by simp [Region.wanted, hg]
      rw [if_pos this]
      exact .inl (go h)
    · rename_i j want hg
      split at h
      case h_2 => exact h.elim
      rename_i d hjd
      obtain ⟨g, h1, h2⟩ := getK_sound hf h
      have hu : ∀ ρ n, VR ρ n (.tup []) undef := fun ρ n => by simp only [VR, VRs]; exact ⟨[], rfl, rfl⟩
      have skip : Region.wanted o (yielded all a.tmps) = false → (dstK o.dst (.tup []) N fr fun fr' => evOps (AC P) T N all rest fr' hp K) →
          (if Region.wanted o (yielded all a.tmps) = true then o.wp P a w (wpOps P all Q l) Q ∨ (o.asks P a w ∧ LetsOut Q) else wpOps P all Q l (a.put o.dst undef) w) := by
        intro hw h1
        rw [if_neg (by rw [hw]; simp)]
        obtain ⟨fr', k6, k7⟩ := dstK_sound (a := a) (cv := undef) hN (hu _ _) hf h1
        exact evOps_sound hT hQ l rest hl fr' hp ρ _ _ k6 hs k7 (by rw [put_size]; exact hN) (by rw [put_defers]; exact hd) hM hρ
      split at h1
      · rename_i g
        simp only [VR] at h2
        have hy : yielded all a.tmps j = some g := by
          simp only [yielded]
          cases hj : all[j]? with
          | none => simp [hj] at hjd
          | some oj =>
            simp only [hj, Option.bind_some] at hjd
            have : a.tmps[d]? = some (.bool g) := by
              rw [Array.getD_eq_getD_getElem?] at h2
              cases hx : a.tmps[d]? with
              | none => simp [hx, undef] at h2
              | some x => simp [hx] at h2; rw [h2]
            simp [hjd, this]
        have hw : Region.wanted o (yielded all a.tmps) = (g == want) := by
          simp [Region.wanted, hg, hy]
        split at h1
        · rename_i hgw
          rw [if_pos (by rw [hw]; exact hgw)]
          exact .inl (go h1)
        · rename_i hgw
          exact skip (by rw [hw]; exact hgw) h1
      · simp only [VR, VRs] at h2
        obtain ⟨cs, h2, rfl⟩ := h2
        have hy : yielded all a.tmps j = none := by
          simp only [yielded]
          cases hj : all[j]? with
          | none => simp [hj] at hjd
          | some oj =>
            simp only [hj, Option.bind_some] at hjd
            rw [Array.getD_eq_getD_getElem?] at h2
            cases hx : a.tmps[d]? with
            | none => simp [hjd, hx]
            | some x => simp [hx] at h2; simp [hjd, hx, h2]
        exact skip (by simp [Region.wanted, hg, hy]) h1
      · exact h1.elim

/-- what stands behind a piece of code, said of the model -/
def Post (w0 : Base) (N M : Nat) (ρ : Nat → Loc) (Kn : Fr → Hp → Prop) (E : List (Nat × (Fr → Hp → Prop))) (G : Nat → Fr → Hp → Prop) (R : Fr → Hp → Prop) : Exit → Act → World → Prop :=
  fun e a' w' => ∃ (fr' : Fr) (hp' : Hp) (ρ' : Nat → Loc), Goes Kn E G R e fr' hp' ∧ HSat w0 ρ' hp' w' ∧ FSat ρ' hp'.length fr' a'.tmps ∧ a'.tmps.size = N ∧ a'.defers = w0.ds ∧ M ≤ hp'.length ∧ ∀ b, b < M → ρ' b = ρ b

theorem AW_iff {c : Code} {Kn E G R fr hp} : AW P N M c Kn E G R fr hp ↔ ∀ (w0 : Base) (ρ : Nat → Loc) (a : Act) (w : World), HSat w0 ρ hp w → FSat ρ hp.length fr a.tmps → a.tmps.size = N → a.defers = w0.ds → M ≤ hp.length →
    c.wp P (Post w0 N M ρ Kn E G R) a w := by
  unfold AW; exact Iff.rfl

theorem Post.mono {w0 : Base} {ρ ρ1 : Nat → Loc} {Kn Kn' E G R e a w} (h : Post w0 N M ρ1 Kn E G R e a w) (hρ : ∀ b, b < M → ρ1 b = ρ b) (hK : ∀ fr hp, Kn fr hp → Kn' fr hp) : Post w0 N M ρ Kn' E G R e a w := by
  obtain ⟨fr', hp', ρ', g, k1, k2, k3, k4, k5, k6⟩ := h
  refine ⟨fr', hp', ρ', ?_, k1, k2, k3, k4, k5, fun b hb => by rw [k6 b hb, hρ b hb]⟩
  cases e <;> first | exact hK _ _ g | exact g

theorem AW.mono {c : Code} {Kn Kn' E G R fr hp} (h : AW P N M c Kn E G R fr hp) (hK : ∀ fr hp, Kn fr hp → Kn' fr hp) : AW P N M c Kn' E G R fr hp := by
  rw [AW_iff] at h ⊢
  exact fun w0 ρ a w h1 h2 h3 h4 h5 => wp_mono (h w0 ρ a w h1 h2 h3 h4 h5) fun e a w hq => hq.mono (fun _ _ => rfl) hK

theorem AW.seq {x y : Code} {Kn E G R fr hp} (h : AW P N M x (fun fr hp => AW P N M y Kn E G R fr hp) E G R fr hp) : AW P N M (.seq x y) Kn E G R fr hp := by
  rw [AW_iff] at h ⊢
  intro w0 ρ a w h1 h2 h3 h4 h5
  refine wp_seq (wp_mono (h w0 ρ a w h1 h2 h3 h4 h5) ?_)
  rintro e a' w' ⟨fr', hp', ρ', g, k1, k2, k3, k4, k5, k6⟩
  cases e with
  | normal =>
    have g' : AW P N M y Kn E G R fr' hp' := g
    rw [AW_iff] at g'
    exact wp_mono (g' w0 ρ' a' w' k1 k2 k3 k4 k5) fun e a w hq => hq.mono k6 (fun _ _ => id)
  | _ => exact ⟨fr', hp', ρ', g, k1, k2, k3, k4, k5, k6⟩

theorem exitK_sound : ∀ {E : List (Nat × KN)} {id : Nat} {fr hp}, exitK E id fr hp → ∃ x, E.find? (fun x => Nat.beq x.1 id) = some x ∧ x.2 fr hp
  | [], id, fr, hp, h => h.elim
  | (i, K) :: r, id, fr, hp, h => by
    simp only [exitK] at h
    simp only [List.find?]
    split at h
    · exact ⟨(i, K), by simp_all, h⟩
    · rename_i hh; simp only [hh]; exact exitK_sound h

theorem AW.block {id : Nat} {c : Code} {Kn E G R fr hp} (h : AW P N M c Kn ((id, Kn) :: E) G R fr hp) : AW P N M (.block id c) Kn E G R fr hp := by
  rw [AW_iff] at h ⊢
  intro w0 ρ a w h1 h2 h3 h4 h5
  refine wp_block (wp_mono (h w0 ρ a w h1 h2 h3 h4 h5) ?_)
  rintro e a' w' ⟨fr', hp', ρ', g, k⟩
  cases e with
  | exit id' =>
    simp only [Exit.inBlock]
    simp only [Goes, List.find?] at g
    split
    · rename_i hid
      subst hid
      simp only [Nat.beq_refl] at g
      exact ⟨fr', hp', ρ', g, k⟩
    · rename_i hid
      have : Nat.beq id id' = false := by
        cases hb : Nat.beq id id' with
        | false => rfl
        | true => exact absurd (Nat.eq_of_beq_eq_true hb).symm hid
      simp only [this] at g
      exact ⟨fr', hp', ρ', g, k⟩
  | _ => exact ⟨fr', hp', ρ', g, k⟩

theorem AW.region {id : Nat} {ops : Array Oper} {keep : Nat → Bool} {Kn E G R fr hp} (hT : TOk P T) (h : evOps (AC P) T N ops ops.toList fr hp fun fr' hp' => keepK keep fr' fun fr'' => Kn fr'' hp') :
    AW P N M (.region id ops false) Kn E G R fr hp := by
  rw [AW_iff]
  intro w0 ρ a w h1 h2 h3 h4 h5
  refine wp_region (evOps_sound (M := M) (ρ0 := ρ) hT ?_ _ ops.toList ?_ fr hp ρ a w h h1 h2 h3 h4 h5 (fun _ _ => rfl))
  · intro a w fr hp ρ' k1 k2 k3 k4 k5 k6 k7
    obtain ⟨fr', k8, k9⟩ := keepK_sound k3 k1
    exact ⟨fr', hp, ρ', k8, k2, k9, k4, k5, k6, k7⟩
  · apply List.ext_getElem
    · simp
    · intro i g1 g2
      simp at g1 g2
      simp [g1]

theorem ev_sound (hT : TOk P T) {keep : Nat → Bool} : ∀ {c : Code} {Kn E G R fr hp}, ev (AC P) (AW P N M) T N keep c Kn E G R fr hp → AW P N M c Kn E G R fr hp := by
  intro c
  induction c with
  | skip =>
    intro Kn E G R fr hp h
    rw [AW_iff]
    exact fun w0 ρ a w h1 h2 h3 h4 h5 => wp_skip ⟨fr, hp, ρ, h, h1, h2, h3, h4, h5, fun _ _ => rfl⟩
  | label l =>
    intro Kn E G R fr hp h
    rw [AW_iff]
    exact fun w0 ρ a w h1 h2 h3 h4 h5 => wp_label ⟨fr, hp, ρ, h, h1, h2, h3, h4, h5, fun _ _ => rfl⟩
  | seq x y ihx ihy =>
    intro Kn E G R fr hp h
    exact AW.seq (AW.mono (ihx h) fun fr hp h => ihy h)
  | cond c x y ihx ihy =>
    intro Kn E G R fr hp h
    rw [AW_iff]
    intro w0 ρ a w h1 h2 h3 h4 h5
    simp only [ev] at h
    obtain ⟨g, k1, k2⟩ := avK_sound h2 h
    split at k1
    case h_2 => exact k1.elim
    rename_i g
    simp only [VR] at k2
    refine wp_cond k2 ?_
    split at k1
    · have := ihx k1
      rw [AW_iff] at this
      exact this w0 ρ a w h1 h2 h3 h4 h5
    · have := ihy k1
      rw [AW_iff] at this
      exact this w0 ρ a w h1 h2 h3 h4 h5
  | block id c ih =>
    intro Kn E G R fr hp h
    exact AW.block (ih h)
  | exit id =>
    intro Kn E G R fr hp h
    rw [AW_iff]
    intro w0 ρ a w h1 h2 h3 h4 h5
    obtain ⟨x, q1, q2⟩ := exitK_sound h
    exact wp_exit ⟨fr, hp, ρ, by simp only [Goes, q1]; exact q2, h1, h2, h3, h4, h5, fun _ _ => rfl⟩
  | goto l =>
    intro Kn E G R fr hp h
    rw [AW_iff]
    exact fun w0 ρ a w h1 h2 h3 h4 h5 => wp_goto ⟨fr, hp, ρ, h, h1, h2, h3, h4, h5, fun _ _ => rfl⟩
  | ret =>
    intro Kn E G R fr hp h
    rw [AW_iff]
    exact fun w0 ρ a w h1 h2 h3 h4 h5 => wp_ret ⟨fr, hp, ρ, h, h1, h2, h3, h4, h5, fun _ _ => rfl⟩
  | region id ops draw =>
    intro Kn E G R fr hp h
    cases draw with
    | false => exact AW.region hT h
    | true => exact h
  | loop c ih => exact fun h => h
  | scope c ih => exact fun h => h
  | rangeFunc f ps a b => exact fun h => h
  | refuse _ => exact fun h => h.elim

theorem wp_loop_ind {Q : Exit → Act → World → Prop} {c : Code} (I : Nat → Act → World → Prop) {n : Nat} {a : Act} {w : World} (h0 : I n a w)
    (round : ∀ n a w, I n a w → c.wp P (Exit.then (fun a' w' => ∃ m, m < n ∧ I m a' w') Q) a w) : (Code.loop c).wp P Q a w := by
  intro b k cs
  have key : ∀ n a w, I n a w → ∃ e a' w', Q e a' w' ∧ Arrives P (lone (b.at a (.code c :: .inLoop c :: k)) cs w) b k cs e a' w' := by
    intro n
    induction n using Nat.strongRecOn with
    | _ n ih =>
      intro a w hI
      obtain ⟨e, a₁, w₁, hq, harr⟩ := round n a w hI b (.inLoop c :: k) cs
      cases e with
      | normal =>
        obtain ⟨m, hlt, hI₁⟩ := hq
        obtain ⟨e₂, a₂, w₂, hq₂, harr₂⟩ := ih m hlt a₁ w₁ hI₁
        exact ⟨e₂, a₂, w₂, hq₂, .of_steps (Steps.trans harr (.one step_inLoop)) harr₂⟩
      | _ => exact ⟨_, a₁, w₁, hq, .pass (x := .inLoop c) rfl (fun _ _ => .inl (by simp)) harr⟩
  obtain ⟨e, a', w', hq, harr⟩ := key n a w h0
  exact ⟨e, a', w', hq, .of_steps (.one step_loop) harr⟩

/-- a loop: what holds ahead of each round; the number falls -/
theorem AW.loop {c : Code} {Kn E G R fr hp} (I : Nat → Fr → Hp → Prop) (n : Nat) (h0 : I n fr hp)
    (round : ∀ n fr hp, I n fr hp → M ≤ hp.length → AW P N M c (fun fr' hp' => ∃ m, m < n ∧ I m fr' hp') E G R fr hp) : AW P N M (.loop c) Kn E G R fr hp := by
  rw [AW_iff]
  intro w0 ρ a w h1 h2 h3 h4 h5
  refine wp_loop_ind (fun n a w => ∃ fr hp ρ', I n fr hp ∧ HSat w0 ρ' hp w ∧ FSat ρ' hp.length fr a.tmps ∧ a.tmps.size = N ∧ a.defers = w0.ds ∧ M ≤ hp.length ∧ ∀ b, b < M → ρ' b = ρ b) (n := n) ⟨fr, hp, ρ, h0, h1, h2, h3, h4, h5, fun _ _ => rfl⟩ ?_
  rintro n a w ⟨fr, hp, ρ', g0, g1, g2, g3, g4, g5, g6⟩
  have := round n fr hp g0 g5
  rw [AW_iff] at this
  refine wp_mono (this w0 ρ' a w g1 g2 g3 g4 g5) ?_
  rintro e a' w' ⟨fr', hp', ρ'', g, k1, k2, k3, k4, k5, k6⟩
  cases e with
  | normal =>
    obtain ⟨m, hm, hI⟩ := g
    exact ⟨m, hm, fr', hp', ρ'', hI, k1, k2, k3, k4, k5, fun b hb => by rw [k6 b hb, g6 b hb]⟩
  | _ => exact ⟨fr', hp', ρ'', g, k1, k2, k3, k4, k5, fun b hb => by rw [k6 b hb, g6 b hb]⟩
end
end Go.Aw
end

section
/-
  AwL: block numbers may be told otherwise; what is no more asked for may be forgotten; a call sees but a part of the memory. Own work of this session.
-/
set_option linter.unusedVariables false
set_option linter.unusedSimpArgs false
namespace Go.Aw

mutual
def AV.ren (σ : Nat → Nat) : AV → AV
  | .ptr b i off j => .ptr (σ b) i off j
  | .sl b off len cap => .sl (σ b) off len cap
  | .mp b => .mp (σ b)
  | .agg vs => .agg (AV.rens σ vs)
  | .tup vs => .tup (AV.rens σ vs)
  | .fn f caps => .fn f (AV.rens σ caps)
  | .int k n => .int k n
  | .bool b => .bool b
  | .str l => .str l
  | .con v => .con v
  | .ints k n xs => .ints k n xs
  | .top => .top
def AV.rens (σ : Nat → Nat) : List AV → List AV
  | [] => []
  | v :: vs => AV.ren σ v :: AV.rens σ vs
def AV.inn (n : Nat) : AV → Prop
  | .ptr b i off j => b < n
  | .sl b off len cap => b < n
  | .mp b => b < n
  | .agg vs => AV.inns n vs
  | .tup vs => AV.inns n vs
  | .fn f caps => AV.inns n caps
  | .int k m => True
  | .bool b => True
  | .str l => True
  | .con v => True
  | .ints k m xs => True
  | .top => True
def AV.inns (n : Nat) : List AV → Prop
  | [] => True
  | v :: vs => AV.inn n v ∧ AV.inns n vs
end

theorem AV.ren_sz (σ : Nat → Nat) (v : AV) : (v.ren σ).sz = v.sz := by cases v <;> simp [AV.ren, AV.sz]
theorem asz_rens (σ : Nat → Nat) : ∀ vs : List AV, asz (AV.rens σ vs) = asz vs
  | [] => by simp [AV.rens]
  | v :: vs => by simp [AV.rens, asz, asz_rens σ vs, AV.ren_sz]

section
variable {ρ1 ρ2 : Nat → Loc} {n1 n2 : Nat} {σ : Nat → Nat}

/-! from a value told with other numbers to the value -/
mutual
theorem VR_unren (h : ∀ b, b < n2 → ρ2 b = ρ1 (σ b)) : ∀ (v : AV) (c : Value), v.inn n2 → VR ρ1 n1 (v.ren σ) c → VR ρ2 n2 v c
  | .int k x, c, hb, hv => by simpa [AV.ren, VR] using hv
  | .bool b, c, hb, hv => by simpa [AV.ren, VR] using hv
  | .str l, c, hb, hv => by simpa [AV.ren, VR] using hv
  | .con l, c, hb, hv => by simpa [AV.ren, VR] using hv
  | .ptr b i off j, c, hb, hv => by
    simp only [AV.inn] at hb
    simp only [AV.ren, VR] at hv ⊢
    rw [h b hb]; exact ⟨hb, hv.2⟩
  | .sl b off len cap, c, hb, hv => by
    simp only [AV.inn] at hb
    simp only [AV.ren, VR] at hv ⊢
    rw [h b hb]; exact ⟨hb, hv.2⟩
  | .mp b, c, hb, hv => by
    simp only [AV.inn] at hb
    simp only [AV.ren, VR] at hv ⊢
    rw [h b hb]; exact ⟨hb, hv.2⟩
  | .ints k m xs, c, hb, hv => by simp [AV.ren, VR] at hv
  | .agg vs, c, hb, hv => by
    simp only [AV.inn] at hb
    simp only [AV.ren, VR] at hv ⊢
    obtain ⟨cs, h1, h2, h3⟩ := hv
    exact ⟨cs, h1, CAt_unren h vs _ _ hb h2, by rw [h3, asz_rens]⟩
  | .tup vs, c, hb, hv => by
    simp only [AV.inn] at hb
    simp only [AV.ren, VR] at hv ⊢
    obtain ⟨cs, h1, h2⟩ := hv
    exact ⟨cs, h1, VRs_unren h vs _ hb h2⟩
  | .fn f vs, c, hb, hv => by
    simp only [AV.inn] at hb
    simp only [AV.ren, VR] at hv ⊢
    obtain ⟨cs, h1, h2⟩ := hv
    exact ⟨cs, h1, VRs_unren h vs _ hb h2⟩
  | .top, c, hb, hv => by simp [VR]
theorem VRs_unren (h : ∀ b, b < n2 → ρ2 b = ρ1 (σ b)) : ∀ (vs : List AV) (cs : List Value), AV.inns n2 vs → VRs ρ1 n1 (AV.rens σ vs) cs → VRs ρ2 n2 vs cs
  | [], cs, hb, hv => by simpa [AV.rens, VRs] using hv
  | v :: vs, cs, hb, hv => by
    simp only [AV.inns] at hb
    simp only [AV.rens, VRs] at hv ⊢
    obtain ⟨c, cr, h1, h2, h3⟩ := hv
    exact ⟨c, cr, h1, VR_unren h v c hb.1 h2, VRs_unren h vs cr hb.2 h3⟩
theorem CAt_unren (h : ∀ b, b < n2 → ρ2 b = ρ1 (σ b)) : ∀ (vs : List AV) (f : Nat → Option Value) (off : Nat), AV.inns n2 vs → CAt ρ1 n1 f (AV.rens σ vs) off → CAt ρ2 n2 f vs off
  | [], f, off, hb, hv => by simp only [CAt]
  | v :: vs, f, off, hb, hv => by
    simp only [AV.inns] at hb
    simp only [AV.rens] at hv
    by_cases hi : ∃ k m xs, v = .ints k m xs
    · obtain ⟨k, m, xs, rfl⟩ := hi
      simp only [AV.ren, CAt] at hv ⊢
      exact ⟨hv.1, CAt_unren h vs f _ hb.2 hv.2⟩
    · have hn : ∀ k m xs, v ≠ .ints k m xs := fun k m xs e => hi ⟨k, m, xs, e⟩
      have hn' : ∀ k m xs, v.ren σ ≠ .ints k m xs := fun k m xs e => by
        cases v <;> simp [AV.ren] at e
        exact hi ⟨_, _, _, rfl⟩
      rw [CAt_cons hn'] at hv
      rw [CAt_cons hn]
      obtain ⟨⟨c, h1, h2, h3⟩, h4⟩ := hv
      exact ⟨⟨c, h1, h2, VR_unren h v c hb.1 h3⟩, CAt_unren h vs f _ hb.2 h4⟩
end

/-! from a value to the value told with other numbers -/
mutual
theorem VR_ren (h : ∀ b, b < n1 → σ b < n2 ∧ ρ2 (σ b) = ρ1 b) : ∀ (v : AV) (c : Value), VR ρ1 n1 v c → VR ρ2 n2 (v.ren σ) c
  | .int k x, c, hv => by simpa [AV.ren, VR] using hv
  | .bool b, c, hv => by simpa [AV.ren, VR] using hv
  | .str l, c, hv => by simpa [AV.ren, VR] using hv
  | .con l, c, hv => by simpa [AV.ren, VR] using hv
  | .ptr b i off j, c, hv => by
    simp only [AV.ren, VR] at hv ⊢
    rw [(h b hv.1).2]; exact ⟨(h b hv.1).1, hv.2⟩
  | .sl b off len cap, c, hv => by
    simp only [AV.ren, VR] at hv ⊢
    rw [(h b hv.1).2]; exact ⟨(h b hv.1).1, hv.2⟩
  | .mp b, c, hv => by
    simp only [AV.ren, VR] at hv ⊢
    rw [(h b hv.1).2]; exact ⟨(h b hv.1).1, hv.2⟩
  | .ints k m xs, c, hv => by simp [VR] at hv
  | .agg vs, c, hv => by
    simp only [AV.ren, VR] at hv ⊢
    obtain ⟨cs, h1, h2, h3⟩ := hv
    exact ⟨cs, h1, CAt_ren h vs _ _ h2, by rw [h3, asz_rens]⟩
  | .tup vs, c, hv => by
    simp only [AV.ren, VR] at hv ⊢
    obtain ⟨cs, h1, h2⟩ := hv
    exact ⟨cs, h1, VRs_ren h vs _ h2⟩
  | .fn f vs, c, hv => by
    simp only [AV.ren, VR] at hv ⊢
    obtain ⟨cs, h1, h2⟩ := hv
    exact ⟨cs, h1, VRs_ren h vs _ h2⟩
  | .top, c, hv => by simp [VR, AV.ren]
theorem VRs_ren (h : ∀ b, b < n1 → σ b < n2 ∧ ρ2 (σ b) = ρ1 b) : ∀ (vs : List AV) (cs : List Value), VRs ρ1 n1 vs cs → VRs ρ2 n2 (AV.rens σ vs) cs
  | [], cs, hv => by simpa [AV.rens, VRs] using hv
  | v :: vs, cs, hv => by
    simp only [AV.rens, VRs] at hv ⊢
    obtain ⟨c, cr, h1, h2, h3⟩ := hv
    exact ⟨c, cr, h1, VR_ren h v c h2, VRs_ren h vs cr h3⟩
theorem CAt_ren (h : ∀ b, b < n1 → σ b < n2 ∧ ρ2 (σ b) = ρ1 b) : ∀ (vs : List AV) (f : Nat → Option Value) (off : Nat), CAt ρ1 n1 f vs off → CAt ρ2 n2 f (AV.rens σ vs) off
  | [], f, off, hv => by simp only [CAt, AV.rens]
  | v :: vs, f, off, hv => by
    simp only [AV.rens]
    by_cases hi : ∃ k m xs, v = .ints k m xs
    · obtain ⟨k, m, xs, rfl⟩ := hi
      simp only [AV.ren, CAt] at hv ⊢
      exact ⟨hv.1, CAt_ren h vs f _ hv.2⟩
    · have hn : ∀ k m xs, v ≠ .ints k m xs := fun k m xs e => hi ⟨k, m, xs, e⟩
      have hn' : ∀ k m xs, v.ren σ ≠ .ints k m xs := fun k m xs e => by
        cases v <;> simp [AV.ren] at e
        exact hi ⟨_, _, _, rfl⟩
      rw [CAt_cons hn] at hv
      rw [CAt_cons hn']
      obtain ⟨⟨c, h1, h2, h3⟩, h4⟩ := hv
      exact ⟨⟨c, h1, h2, VR_ren h v c h3⟩, CAt_ren h vs f _ h4⟩
end

def AObj.ren (σ : Nat → Nat) : AObj → AObj
  | .gone => .gone
  | .ints k xs => .ints k xs
  | .var vs => .var (AV.rens σ vs)
  | .row els => .row (els.map (AV.rens σ))
  | .map k n es c => .map k n (es.map fun e => (e.1, e.2.1, AV.ren σ e.2.2)) c
  | .iter m a s l => .iter (σ m) a s l
def AObj.inn (n : Nat) : AObj → Prop
  | .gone => True
  | .ints _ _ => True
  | .var vs => AV.inns n vs
  | .row els => ∀ x ∈ els, AV.inns n x
  | .map _ _ es _ => ∀ e ∈ es, AV.inn n e.2.2
  | .iter m _ _ _ => m < n

theorem AObj.ren_lv (σ : Nat → Nat) (o : AObj) (l : Loc) : (o.ren σ).lv l = o.lv l := by cases o <;> simp [AObj.ren, AObj.lv]

theorem MEs_unren {k : IntKind} {kn : Nat} (h : ∀ b, b < n2 → ρ2 b = ρ1 (σ b)) : ∀ {es : List (Nat × List Int × AV)} {cs : List MapEntry}, (∀ e ∈ es, AV.inn n2 e.2.2) → MEs ρ1 n1 k kn (es.map fun e => (e.1, e.2.1, AV.ren σ e.2.2)) cs → MEs ρ2 n2 k kn es cs
  | [], _, _, hm => hm
  | e :: es, _, hi, hm => by
    obtain ⟨c, cr, h1, ⟨g1, g2, g3, g4⟩, h2⟩ := hm
    exact ⟨c, cr, h1, ⟨g1, g2, g3, VR_unren h _ _ (hi e List.mem_cons_self) g4⟩, MEs_unren h (fun e he => hi e (List.mem_cons_of_mem _ he)) h2⟩
theorem MEs_ren {k : IntKind} {kn : Nat} (h : ∀ b, b < n1 → σ b < n2 ∧ ρ2 (σ b) = ρ1 b) : ∀ {es : List (Nat × List Int × AV)} {cs : List MapEntry}, MEs ρ1 n1 k kn es cs → MEs ρ2 n2 k kn (es.map fun e => (e.1, e.2.1, AV.ren σ e.2.2)) cs
  | [], _, hm => hm
  | e :: es, _, hm => by
    obtain ⟨c, cr, h1, ⟨g1, g2, g3, g4⟩, h2⟩ := hm
    exact ⟨c, cr, h1, ⟨g1, g2, g3, VR_ren h _ _ g4⟩, MEs_ren h h2⟩
theorem ObjOk_unren {w : World} {l : Loc} {ro ro' : Bool} (h : ∀ b, b < n2 → ρ2 b = ρ1 (σ b)) (hro : ro' = false → ro = false) {o : AObj} (hb : o.inn n2) (ho : ObjOk ρ1 n1 w l ro (o.ren σ)) : ObjOk ρ2 n2 w l ro' o := by
  cases o with
  | gone => trivial
  | ints k xs =>
    intro hlv
    obtain ⟨h1, c, t, f, h2, h3, h4, h5⟩ := ho hlv
    exact ⟨h1, c, t, f, h2, h3, fun g => h4 (hro g), h5⟩
  | var vs =>
    obtain ⟨c, t, f, h2, h3, h4, h5, h6, h7⟩ := ho
    exact ⟨c, t, f, h2, h3, fun g => h4 (hro g), h5, by rw [← h6, asz_rens], CAt_unren h vs _ _ hb h7⟩
  | row els =>
    intro hlv
    obtain ⟨c, t, f, h2, h3, h4, h5, h6⟩ := ho (by simpa [AObj.lv] using hlv)
    refine ⟨c, t, f, h2, h3, fun g => h4 (hro g), by simpa using h5, fun i x hx => ?_⟩
    have := h6 i (AV.rens σ x) (by simp [hx])
    exact ⟨by rw [← this.1, asz_rens], CAt_unren h x _ _ (hb x (List.mem_of_getElem? hx)) this.2⟩
  | map k kn es clock =>
    obtain ⟨cs, h1, h2⟩ := ho
    exact ⟨cs, h1, MEs_unren h hb h2⟩
  | iter m since seen last =>
    have hb' : m < n2 := hb
    obtain ⟨h1, h2, h3⟩ := ho
    exact ⟨hb', h2, by rw [h m hb']; exact h3⟩

theorem ObjOk_ren {w : World} {l : Loc} {ro : Bool} (h : ∀ b, b < n1 → σ b < n2 ∧ ρ2 (σ b) = ρ1 b) {o : AObj} (ho : ObjOk ρ1 n1 w l ro o) : ObjOk ρ2 n2 w l ro (o.ren σ) := by
  cases o with
  | gone => trivial
  | ints k xs =>
    intro hlv
    obtain ⟨h1, c, t, f, h2, h3, h4, h5⟩ := ho hlv
    exact ⟨h1, c, t, f, h2, h3, h4, h5⟩
  | var vs =>
    obtain ⟨c, t, f, h2, h3, h4, h5, h6, h7⟩ := ho
    exact ⟨c, t, f, h2, h3, h4, h5, by rw [← h6, asz_rens], CAt_ren h vs _ _ h7⟩
  | row els =>
    intro hlv
    obtain ⟨c, t, f, h2, h3, h4, h5, h6⟩ := ho (by simpa [AObj.lv] using hlv)
    refine ⟨c, t, f, h2, h3, h4, by simpa using h5, fun i x hx => ?_⟩
    simp only [List.getElem?_map, Option.map_eq_some_iff] at hx
    obtain ⟨y, hy, rfl⟩ := hx
    have := h6 i y hy
    exact ⟨by rw [← this.1, asz_rens], CAt_ren h y _ _ this.2⟩
  | map k kn es clock =>
    obtain ⟨cs, h1, h2⟩ := ho
    exact ⟨cs, h1, MEs_ren h h2⟩
  | iter m since seen last =>
    obtain ⟨h1, h2, h3⟩ := ho
    exact ⟨(h m h1).1, h2, by rw [(h m h1).2]; exact h3⟩
end

/-- an entry told with other numbers -/
def Ent.ren (σ : Nat → Nat) (e : Ent) : Ent := ⟨e.esz, e.ro, e.par.map σ, e.o.ren σ⟩

/-- the memory 'hp' seen as 'hp'': number 'i' of the new one is 'σ i' of the elder one -/
structure Sees (σ : Nat → Nat) (hp hp' : Hp) : Prop where
  get : ∀ (i : Nat) (e' : Ent), hp'[i]? = some e' → ∃ e : Ent, hp[σ i]? = some e ∧ e.esz = e'.esz ∧ (e'.o.live = true → e = e'.ren σ ∧ e'.o.inn hp'.length)
  par : ∀ (i : Nat) (e' : Ent) (p : Nat), hp'[i]? = some e' → e'.par = some p → e'.o.live = true → ∃ e'' : Ent, hp'[p]? = some e'' ∧ e''.ro = false ∧ e''.o.live = true
  inj : ∀ (i j : Nat) (e' e'' : Ent), hp'[i]? = some e' → hp'[j]? = some e'' → e'.o.live = true → e''.o.live = true → i ≠ j → σ i ≠ σ j

theorem HSat_unren {w0 : Base} {ρ : Nat → Loc} {σ : Nat → Nat} {hp hp' : Hp} {w : World} (hs : HSat w0 ρ hp w) (h : Sees σ hp hp') : HSat w0 (fun i => ρ (σ i)) hp' w where
  size := hs.size
  old := hs.old
  tape := hs.tape
  os := hs.os
  out := hs.out
  esz b e hb := by
    obtain ⟨e1, h1, h2, _⟩ := h.get b e hb
    rw [hs.esz _ _ h1, h2]
  obj b e hb := by
    obtain ⟨e1, h1, h2, h3⟩ := h.get b e hb
    cases hl : e.o.live with
    | false => exact obj_dead (fun g => by rw [lv_live g] at hl; cases hl)
    | true =>
      obtain ⟨h4, h5⟩ := h3 hl
      have := hs.obj _ _ h1
      subst h4
      exact ObjOk_unren (σ := σ) (ρ1 := ρ) (fun _ _ => rfl) id h5 this
  own b e hb hr hl := by
    obtain ⟨e1, h1, h2, h3⟩ := h.get b e hb
    obtain ⟨h4, h5⟩ := h3 (lv_live hl)
    subst h4
    exact hs.own _ _ h1 hr (by simpa only [Ent.ren, AObj.ren_lv] using hl)
  views b e p hb hp hl := by
    obtain ⟨e1, h1, h2, h3⟩ := h.get b e hb
    obtain ⟨h4, h5⟩ := h3 (lv_live hl)
    subst h4
    obtain ⟨g1, g2, e', g3, g4, g5⟩ := hs.views _ _ (σ p) h1 (by simp [Ent.ren, hp]) (by simpa only [Ent.ren, AObj.ren_lv] using hl)
    obtain ⟨e'', q1, q2, q3⟩ := h.par b e p hb hp (lv_live hl)
    obtain ⟨x, r1, r2, r3⟩ := h.get p e'' q1
    obtain ⟨r4, _⟩ := r3 q3
    rw [g3] at r1; cases r1
    subst r4
    exact ⟨g1, g2, e'', q1, q2, by simpa only [Ent.ren, AObj.ren_lv] using g5⟩
  given b e hb hr hp hl := by
    obtain ⟨e1, h1, h2, h3⟩ := h.get b e hb
    obtain ⟨h4, h5⟩ := h3 (lv_live hl)
    subst h4
    exact hs.given _ _ h1 hr (by simp [Ent.ren, hp]) (by simpa only [Ent.ren, AObj.ren_lv] using hl)
  apart b b' e e' hb hb' hne hr hr' hl hl' := by
    obtain ⟨e1, h1, h2, h3⟩ := h.get b e hb
    obtain ⟨h4, h5⟩ := h3 (lv_live hl)
    obtain ⟨e1', h1', h2', h3'⟩ := h.get b' e' hb'
    obtain ⟨h4', h5'⟩ := h3' (lv_live hl')
    subst h4 h4'
    exact hs.apart _ _ _ _ h1 h1' (h.inj b b' e e' hb hb' (lv_live hl) (lv_live hl') hne) hr hr' (by simpa only [Ent.ren, AObj.ren_lv] using hl) (by simpa only [Ent.ren, AObj.ren_lv] using hl')

/-- slots, seen with other numbers: some may be forgotten -/
def FSees (σ : Nat → Nat) (n : Nat) (fr fr' : Fr) : Prop := ∀ t v', Fr.find fr' t = some v' → v' = .top ∨ ∃ v, Fr.find fr t = some v ∧ v = v'.ren σ ∧ v'.inn n

theorem FSat_unren {ρ : Nat → Loc} {σ : Nat → Nat} {n n' : Nat} {fr fr' : Fr} {tmps : Array Value} (hf : FSat ρ n fr tmps) (h : FSees σ n' fr fr') : FSat (fun i => ρ (σ i)) n' fr' tmps := by
  intro t v' hv
  rcases h t v' hv with rfl | ⟨v, h1, rfl, h2⟩
  · simp only [VR]
  · exact VR_unren (σ := σ) (ρ1 := ρ) (fun _ _ => rfl) v' _ h2 (hf t _ h1)

section
variable {P : Program} {N M : Nat}

/-- ahead of a piece of code the state may be told otherwise -/
theorem AW.turn {c : Code} {Kn E G R} {fr fr' : Fr} {hp hp' : Hp} (σ : Nat → Nat) (hσ : ∀ i, i < M → σ i = i) (hM : M ≤ hp'.length) (hh : Sees σ hp hp') (hf : FSees σ hp'.length fr fr')
    (h : AW P N M c Kn E G R fr' hp') : AW P N M c Kn E G R fr hp := by
  rw [AW_iff] at h ⊢
  intro w0 ρ a w h1 h2 h3 h4 h5
  refine wp_mono (h w0 _ a w (HSat_unren h1 hh) (FSat_unren h2 hf) h3 h4 hM) fun e a w hq => hq.mono (fun b hb => by rw [hσ b hb]) (fun _ _ => id)

/-- behind a piece of code the state may be told otherwise -/
@[irreducible] def Turned (M : Nat) (K : Fr → Hp → Prop) (fr : Fr) (hp : Hp) : Prop :=
  ∃ σ fr' hp', (∀ i, i < M → σ i = i) ∧ M ≤ hp'.length ∧ Sees σ hp hp' ∧ FSees σ hp'.length fr fr' ∧ K fr' hp'

theorem AW.post {c : Code} {Kn E G R} {fr : Fr} {hp : Hp} (h : AW P N M c (Turned M Kn) E G R fr hp) : AW P N M c Kn E G R fr hp := by
  rw [AW_iff] at h ⊢
  intro w0 ρ a w h1 h2 h3 h4 h5
  refine wp_mono (h w0 _ a w h1 h2 h3 h4 h5) ?_
  rintro e a' w' ⟨fr', hp', ρ', g, k1, k2, k3, k4, k5, k6⟩
  cases e with
  | normal =>
    simp only [Goes] at g
    unfold Turned at g
    obtain ⟨σ, fr'', hp'', q1, q2, q3, q4, q5⟩ := g
    exact ⟨fr'', hp'', _, q5, HSat_unren k1 q3, FSat_unren k2 q4, k3, k4, q2, fun b hb => by rw [q1 b hb]; exact k6 b hb⟩
  | _ => exact ⟨fr', hp', ρ', g, k1, k2, k3, k4, k5, k6⟩

theorem AC.mono {f : FuncId} {args : List AV} {hp : Hp} {K K' : AV → Hp → Prop} (h : AC P f args hp K) (hK : ∀ r hp', K r hp' → K' r hp') : AC P f args hp K' := by
  unfold AC at h ⊢
  refine ⟨h.1, fun w0 ρ w vs h1 h2 => (h.2 w0 ρ w vs h1 h2).mono ?_⟩
  rintro e w' ⟨r, v, hp', ρ', k1, k2, k3⟩
  exact ⟨r, v, hp', ρ', k1, hK _ _ k2, k3⟩

/-- what a call left may be told otherwise -/
theorem AC.post {f : FuncId} {args : List AV} {hp : Hp} {K K' : AV → Hp → Prop} (h : AC P f args hp K)
    (hK : ∀ r hp', K r hp' → ∃ σ r' hp'', (∀ i, i < hp.length → σ i = i) ∧ hp.length ≤ hp''.length ∧ Sees σ hp' hp'' ∧ r = r'.ren σ ∧ r'.inn hp''.length ∧ K' r' hp'') : AC P f args hp K' := by
  unfold AC at h ⊢
  refine ⟨h.1, fun w0 ρ w vs h1 h2 => (h.2 w0 ρ w vs h1 h2).mono ?_⟩
  rintro e w' ⟨r, v, hp', ρ', k1, k2, k3, k4, k5, k6⟩
  obtain ⟨σ, r', hp'', q1, q2, q3, rfl, q4, q5⟩ := hK _ _ k2
  exact ⟨r', v, hp'', _, k1, q5, VR_unren (σ := σ) (ρ1 := ρ') (fun _ _ => rfl) r' _ q4 k3, HSat_unren k4 q3, q2, fun b hb => by rw [q1 b hb]; exact k6 b hb⟩
end
end Go.Aw
end

section
/-
  AwM: a call seen from a smaller memory; a function's contract from its body; scopes with labels. Own work of this session.
-/
set_option linter.unusedVariables false
set_option linter.unusedSimpArgs false
namespace Go.Aw

section
variable {P : Program} {T : Tab} {N M : Nat}

/-- the slots at a function's start -/
def frOf : Nat → List AV → Fr
  | _, [] => []
  | i, v :: r => (i, v) :: frOf (i + 1) r

theorem frOf_find : ∀ (vs : List AV) (i t : Nat) (v : AV), Fr.find (frOf i vs) t = some v → i ≤ t ∧ vs[t - i]? = some v
  | [], i, t, v, h => by simp [frOf, Fr.find] at h
  | x :: r, i, t, v, h => by
    simp only [frOf, Fr.find] at h
    split at h
    · rename_i hb
      have := Nat.eq_of_beq_eq_true hb
      subst this
      simp at h; subst h
      simp
    · rename_i hb
      obtain ⟨h1, h2⟩ := frOf_find r (i + 1) t v h
      refine ⟨by omega, ?_⟩
      rw [show t - i = (t - (i + 1)) + 1 by omega]
      simpa using h2

/-- what a function brings home -/
def res1K (T : Tab) (fr : Fr) (hp : Hp) (r : ResultVar) (K : AV → Prop) : Prop :=
  match r with
  | .tmp t => getK t fr K
  | .cell a t => getK a fr fun p => evLoad T hp t p K
def ressK (T : Tab) (fr : Fr) (hp : Hp) : List ResultVar → (List AV → Prop) → Prop
  | [], K => K []
  | r :: rs, K => res1K T fr hp r fun v => ressK T fr hp rs fun vs => K (v :: vs)
def resK (T : Tab) (rs : List ResultVar) (K : AV → Hp → Prop) (fr : Fr) (hp : Hp) : Prop :=
  ressK T fr hp rs fun vs => match vs with
    | [v] => K v hp
    | vs => K (.tup vs) hp

def res1 (tmps : Array Value) : ResultVar → Sem Value
  | .tmp t => pure (tmps.getD t undef)
  | .cell a t => do loadVar t (← asAddr (tmps.getD a undef))

theorem ressK_sound (hT : TOk P T) {w0 : Base} {w : World} {ρ : Nat → Loc} {hp : Hp} (hs : HSat w0 ρ hp w) {fr : Fr} {tmps : Array Value} (hf : FSat ρ hp.length fr tmps) :
    ∀ {rs : List ResultVar} {K : List AV → Prop}, ressK T fr hp rs K → ∃ (vs : List AV) (cs : List Value), K vs ∧ VRs ρ hp.length vs cs ∧
      (rs.mapM (m := Sem) (res1 tmps)).run P w = .ok cs w
  | [], K, h => ⟨[], [], h, by simp [VRs], by simp⟩
  | r :: rs, K, h => by
    simp only [ressK] at h
    have h1 : ∃ v cv, ressK T fr hp rs (fun vs => K (v :: vs)) ∧ VR ρ hp.length v cv ∧
        (res1 tmps r).run P w = .ok cv w := by
      cases r with
      | tmp t =>
        obtain ⟨v, k1, k2⟩ := getK_sound hf h
        exact ⟨v, _, k1, k2, by simp [res1]⟩
      | cell a t =>
        obtain ⟨p, k1, k2⟩ := getK_sound hf h
        obtain ⟨v, cv, k3, k4, k5⟩ := evLoad_sound hT hs k2 k1
        refine ⟨v, cv, k3, k5, ?_⟩
        cases p <;> simp only [evLoad] at k1
        simp only [VR] at k2
        rw [k2.2] at k4
        simp only [res1]
        rw [k2.2]
        simpa [Instr.loadAt, Instr.sureAddr, asAddr] using k4
    obtain ⟨v, cv, k1, k2, k3⟩ := h1
    obtain ⟨vs, cs, k4, k5, k6⟩ := ressK_sound hT hs hf k1
    refine ⟨v :: vs, cv :: cs, k4, by simp only [VRs]; exact ⟨_, _, rfl, k2, k5⟩, ?_⟩
    rw [List.mapM_cons]
    simp only [Sem.run_bind]
    rw [k3]
    simp only [Result.andThen_ok, Sem.run_bind]
    rw [k6]
    simp

theorem resK_sound (hT : TOk P T) {w0 : Base} {w : World} {ρ : Nat → Loc} {hp : Hp} (hs : HSat w0 ρ hp w) {fr : Fr} {tmps : Array Value} (hf : FSat ρ hp.length fr tmps) {fn : Func} {K : AV → Hp → Prop}
    (h : resK T fn.results.toList K fr hp) : ∃ v cv, K v hp ∧ VR ρ hp.length v cv ∧ (results fn tmps).run P w = .ok cv w := by
  obtain ⟨vs, cs, h1, h2, h3⟩ := ressK_sound hT hs hf h
  have h4 : (results fn tmps).run P w = .ok (if h : cs.toArray.size = 1 then cs.toArray[0] else .tuple cs.toArray) w := by
    have hr : results fn tmps = (do let vs ← fn.results.mapM (res1 tmps); pure (if h : vs.size = 1 then vs[0] else .tuple vs)) := rfl
    rw [hr, ← Array.toArray_toList (xs := fn.results)]
    rw [List.mapM_toArray]
    simp only [Sem.run_bind, Sem.run_map]
    rw [h3]
    simp
  rw [h4]
  split at h1
  · rename_i v
    simp only [VRs] at h2
    obtain ⟨c, cr, rfl, h5, rfl⟩ := h2
    exact ⟨v, c, h1, h5, by simp⟩
  · rename_i vs hvs
    refine ⟨_, .tuple cs.toArray, h1, by simp only [VR]; exact ⟨cs, rfl, h2⟩, ?_⟩
    rw [dif_neg]
    intro g
    have hl := VRs_length h2
    simp only [List.size_toArray] at g
    rw [g] at hl
    obtain ⟨v, hv⟩ := List.length_eq_one_iff.mp hl
    exact hvs v hv

/-- a function's contract, from its body -/
theorem AC.body (hT : TOk P T) {f : FuncId} {fn : Func} {c : Code} {args : List AV} {hp : Hp} {K : AV → Hp → Prop} {rs : List ResultVar} (hf : P.funcs[f]? = some fn) (hb : fn.body = some c) (hN : fn.ntmps = N) (hrs : fn.results.toList = rs)
    (hname : (fn.name == "runtime.NumGoroutine") = false) (hargs : Nat.ble args.length N = true)
    (h : AW P N hp.length c (resK T rs K) [] (fun _ _ _ => False) (resK T rs K) (frOf 0 args) hp) : AC P f args hp K := by
  subst hN; subst hrs
  have hargs : args.length ≤ fn.ntmps := by simpa using hargs
  unfold AC
  refine ⟨⟨fn, hf, hname, by simp [hb]⟩, fun w0 ρ w vs h1 h2 => ?_⟩
  have hl := VRs_length h2
  refine calls_of_wp hf hb ?_
  rw [AW_iff] at h
  refine wp_mono (h { w0 with ds := [] } ρ _ w (h1.base []) ?_ ?_ rfl (Nat.le_refl _)) ?_
  · intro t v hv
    obtain ⟨_, hv⟩ := frOf_find _ _ _ _ hv
    rw [Nat.sub_zero] at hv
    obtain ⟨c, hc, hvc⟩ := VRs_get h2 hv
    have : (vs.toArray ++ Array.replicate (fn.ntmps - vs.toArray.size) undef).getD t undef = c := by
      have ht : t < vs.length := by
        rcases Nat.lt_or_ge t vs.length with g | g
        · exact g
        · rw [List.getElem?_eq_none g] at hc; cases hc
      rw [Array.getD_eq_getD_getElem?, Array.getElem?_append_left (by simpa using ht)]
      simp [hc]
    simp only [this]; exact hvc
  · simp; omega
  · rintro e a' w' ⟨fr', hp', ρ', g, k1, k2, k3, k4, k5, k6⟩
    cases e with
    | normal =>
      obtain ⟨v, cv, q1, q2, q3⟩ := resK_sound hT k1 k2 g
      exact ⟨k4, cv, q3, v, cv, hp', ρ', rfl, q1, q2, k1.base w0.ds, k5, k6⟩
    | ret =>
      obtain ⟨v, cv, q1, q2, q3⟩ := resK_sound hT k1 k2 g
      exact ⟨k4, cv, q3, v, cv, hp', ρ', rfl, q1, q2, k1.base w0.ds, k5, k6⟩
    | exit id => simp [Goes, List.find?] at g
    | goto l => exact g.elim
    | panic _ => exact g.elim
    | outgrown => exact g.elim

/-- a scope with one label to which only forward jumps lead -/
theorem AW.scope {c rest : Code} (l : Nat) {Kn E G R fr hp} (hl : findLabel c l = some rest)
    (h : AW P N M c Kn E (fun l' fr hp => match Nat.beq l' l with | true => AW P N M rest Kn E (fun _ _ _ => False) R fr hp | false => False) R fr hp) : AW P N M (.scope c) Kn E G R fr hp := by
  rw [AW_iff] at h ⊢
  intro w0 ρ a w h1 h2 h3 h4 h5 b k cs
  obtain ⟨e, a₁, w₁, ⟨fr', hp', ρ', g, k1, k2, k3, k4, k5, k6⟩, harr⟩ := h w0 ρ a w h1 h2 h3 h4 h5 b (.inScope c :: k) cs
  have same : ∀ {e : Exit}, Goes Kn E (fun _ _ _ => False) R e fr' hp' → Post w0 N M ρ Kn E G R e a₁ w₁ := by
    intro e g
    refine ⟨fr', hp', ρ', ?_, k1, k2, k3, k4, k5, k6⟩
    cases e <;> first | exact g | exact g.elim
  cases e with
  | normal => exact ⟨.normal, a₁, w₁, same (e := .normal) g, .head step_scope (Steps.trans harr (.one step_inScope))⟩
  | exit id => exact ⟨.exit id, a₁, w₁, same (e := .exit id) g, fun k' hk => .head step_scope (harr k' (by simp [exitTo, hk]))⟩
  | ret => exact ⟨.ret, a₁, w₁, same (e := .ret) g, .of_steps (.one step_scope) harr⟩
  | panic ch => exact g.elim
  | outgrown => exact g.elim
  | goto l' =>
    simp only [Goes] at g
    split at g
    case h_2 => exact g.elim
    rename_i hb
    have := Nat.eq_of_beq_eq_true hb
    subst this
    rw [AW_iff] at g
    have hg : gotoIn l' (.inScope c :: k) = some (.code rest :: .inScope c :: k) := by simp [gotoIn, hl]
    have harr1 := harr _ hg
    obtain ⟨e2, a₂, w₂, ⟨fr'', hp'', ρ'', g2, q1, q2, q3, q4, q5, q6⟩, harr2⟩ := g w0 ρ' a₁ w₁ k1 k2 k3 k4 k5 b (.inScope c :: k) cs
    have same : ∀ {e : Exit}, Goes Kn E (fun _ _ _ => False) R e fr'' hp'' → Post w0 N M ρ Kn E G R e a₂ w₂ := by
      intro e g
      refine ⟨fr'', hp'', ρ'', ?_, q1, q2, q3, q4, q5, fun b hb => by rw [q6 b hb, k6 b hb]⟩
      cases e <;> first | exact g | exact g.elim
    have hst : Steps P (lone (b.at a (.code (.scope c) :: k)) cs w) (lone (b.at a₁ (.code rest :: .inScope c :: k)) cs w₁) := .head step_scope harr1
    cases e2 with
    | normal => exact ⟨.normal, a₂, w₂, same (e := .normal) g2, hst.trans (Steps.trans harr2 (.one step_inScope))⟩
    | exit id => exact ⟨.exit id, a₂, w₂, same (e := .exit id) g2, fun k' hk => hst.trans (harr2 k' (by simp [exitTo, hk]))⟩
    | ret => exact ⟨.ret, a₂, w₂, same (e := .ret) g2, .of_steps hst harr2⟩
    | goto _ => exact g2.elim
    | panic ch => exact g2.elim
    | outgrown => exact g2.elim
end
end Go.Aw
end

section
/-
  AwN: a call sees but a part of the memory, and leaves the rest as it was. Own work of this session.
-/
set_option linter.unusedVariables false
set_option linter.unusedSimpArgs false
namespace Go.Aw

/-- the caller's number of a callee's block; 'n': where the new ones begin -/
def sig : List Nat → Nat → Nat → Nat
  | [], n, i => n + i
  | s :: _, _, 0 => s
  | _ :: sl, n, i + 1 => sig sl n i

theorem sig_lt : ∀ (sl : List Nat) (n i s : Nat), sl[i]? = some s → sig sl n i = s
  | [], n, i, s, h => by simp at h
  | x :: sl, n, 0, s, h => by simpa [sig] using h
  | x :: sl, n, i + 1, s, h => by simp at h; simpa [sig] using sig_lt sl n i s h
theorem sig_ge : ∀ (sl : List Nat) (n i : Nat), sl.length ≤ i → sig sl n i = n + (i - sl.length)
  | [], n, i, h => by simp [sig]
  | x :: sl, n, 0, h => by simp at h
  | x :: sl, n, i + 1, h => by
    simp at h
    simp only [sig, List.length_cons]
    rw [sig_ge sl n i h]; omega

def seek : List Nat → Hp → Nat → Option Ent
  | s :: sl, e :: r, j => match Nat.beq s j with | true => some e | false => seek sl r j
  | _, _, _ => none

theorem seek_some : ∀ {sl : List Nat} {hp : Hp} {j : Nat} {e : Ent}, seek sl hp j = some e → ∃ i : Nat, sl[i]? = some j ∧ hp[i]? = some e
  | s :: sl, x :: r, j, e, h => by
    simp only [seek] at h
    split at h
    · rename_i hb
      have := Nat.eq_of_beq_eq_true hb
      subst this; cases h
      exact ⟨0, by simp, by simp⟩
    · obtain ⟨i, h1, h2⟩ := seek_some h
      exact ⟨i + 1, by simpa using h1, by simpa using h2⟩
  | [], _, j, e, h => by simp [seek] at h
  | _ :: _, [], j, e, h => by simp [seek] at h

theorem seek_find : ∀ {sl : List Nat} {hp : Hp} {i j : Nat}, sl[i]? = some j → i < hp.length → (∀ i', i' < i → sl[i']? ≠ some j) → seek sl hp j = hp[i]?
  | [], hp, i, j, h, _, _ => by simp at h
  | s :: sl, [], i, j, h, hl, _ => by simp at hl
  | s :: sl, x :: r, i, j, h, hl, hn => by
    simp only [seek]
    cases i with
    | zero =>
      simp at h; subst h
      simp
    | succ i =>
      have h0 := hn 0 (by omega)
      simp at h0
      have : Nat.beq s j = false := by
        cases hb : Nat.beq s j with
        | false => rfl
        | true => exact absurd (Nat.eq_of_beq_eq_true hb) h0
      simp only [this]
      simp at h hl
      rw [seek_find h hl (fun i' hi' => by have := hn (i' + 1) (by omega); simpa using this)]
      simp

def cleanO (σ : Nat → Nat) (e : Ent) : AObj :=
  match e.ro with
  | false => (match e.par with
    | none => e.o.ren σ
    | some _ => .gone)
  | true => .gone

def mergeE (sl : List Nat) (σ : Nat → Nat) (hp0 hp0' : Hp) (j : Nat) (e : Ent) : Ent :=
  match seek sl hp0 j with
  | some e0 => (match e0.ro with
    | true => e
    | false => (match seek sl hp0' j with
      | some e1 => ⟨e.esz, false, none, cleanO σ e1⟩
      | none => e))
  | none => (match e.par with
    | some p => (match seek sl hp0 p with
      | some e0 => (match e0.ro with
        | false => ⟨e.esz, e.ro, e.par, .gone⟩
        | true => e)
      | none => e)
    | none => e)
def mergeOld (sl : List Nat) (σ : Nat → Nat) (hp0 hp0' : Hp) : Nat → Hp → Hp
  | _, [] => []
  | j, e :: r => mergeE sl σ hp0 hp0' j e :: mergeOld sl σ hp0 hp0' (j + 1) r
def mergeNew (σ : Nat → Nat) : Nat → Hp → Hp
  | _, [] => []
  | k + 1, _ :: r => mergeNew σ k r
  | 0, e :: r => ⟨e.esz, false, none, cleanO σ e⟩ :: mergeNew σ 0 r
/-- the caller's memory behind the call -/
def merge (sl : List Nat) (hp hp0 hp0' : Hp) : Hp :=
  mergeOld sl (sig sl hp.length) hp0 hp0' 0 hp ++ mergeNew (sig sl hp.length) hp0.length hp0'

theorem mergeOld_get {sl : List Nat} {σ : Nat → Nat} {hp0 hp0' : Hp} : ∀ (hp : Hp) (k j : Nat), (mergeOld sl σ hp0 hp0' k hp)[j]? = (hp[j]?).map (mergeE sl σ hp0 hp0' (k + j))
  | [], k, j => by simp [mergeOld]
  | e :: r, k, 0 => by simp [mergeOld]
  | e :: r, k, j + 1 => by
    simp only [mergeOld, List.getElem?_cons_succ]
    rw [mergeOld_get r (k + 1) j]
    rw [show k + 1 + j = k + (j + 1) by omega]
theorem mergeOld_length {sl : List Nat} {σ : Nat → Nat} {hp0 hp0' : Hp} : ∀ (hp : Hp) (k : Nat), (mergeOld sl σ hp0 hp0' k hp).length = hp.length
  | [], k => rfl
  | e :: r, k => by simp [mergeOld, mergeOld_length r]
theorem mergeNew_eq {σ : Nat → Nat} : ∀ (k : Nat) (hp : Hp), mergeNew σ k hp = (hp.drop k).map fun e => ⟨e.esz, false, none, cleanO σ e⟩
  | 0, [] => by simp [mergeNew]
  | k + 1, [] => by simp [mergeNew]
  | k + 1, _ :: r => by simp [mergeNew, mergeNew_eq k r]
  | 0, e :: r => by simp only [mergeNew, mergeNew_eq 0 r]; simp

def ownsOf : List Nat → Hp → List Nat
  | s :: sl, e :: r => (match e.ro with | false => s :: ownsOf sl r | true => ownsOf sl r)
  | _, _ => []
def notIn (s : Nat) : List Nat → Bool
  | [] => true
  | x :: r => match Nat.beq x s with | true => false | false => notIn s r
def noDup : List Nat → Bool
  | [] => true
  | x :: r => match notIn x r with | true => noDup r | false => false

theorem notIn_iff {s : Nat} : ∀ {l : List Nat}, notIn s l = true → s ∉ l
  | [], _ => by simp
  | x :: r, h => by
    simp only [notIn] at h
    split at h
    · cases h
    · rename_i hb
      have := notIn_iff h
      simp only [List.mem_cons, not_or]
      refine ⟨fun e => ?_, this⟩
      subst e; simp at hb

/-- does the caller's memory look as the callee's contract asks? -/
def seesC (σ : Nat → Nat) (k : Nat) (owns : List Nat) (hp : Hp) : Hp → List Nat → Prop
  | [], [] => True
  | e0 :: r, s :: sr => (entK hp s fun e => match e0.par with
      | none => (match e0.ro with
        | false => e0.o.live = true ∧ e0.o.inn k ∧ e = ⟨e0.esz, false, none, e0.o.ren σ⟩
        | true => e.esz = e0.esz ∧ notIn s owns = true ∧ (match e.par with | some p => notIn p owns | none => true) = true ∧ (match e0.o with
          | .gone => True
          | o => e.o = o.ren σ ∧ o.inn k))
      | some _ => False) ∧ seesC σ k owns hp r sr
  | _, _ => False

structure Head (σ : Nat → Nat) (k : Nat) (owns : List Nat) (s : Nat) (e e0 : Ent) : Prop where
  par : e0.par = none
  live : e0.ro = false → e0.o.live = true
  inn : e0.o.inn k
  o : e0.o.live = true → e.o = e0.o.ren σ
  esz : e.esz = e0.esz
  own : e0.ro = false → e.ro = false ∧ e.par = none
  giv : e0.ro = true → s ∉ owns ∧ ∀ p, e.par = some p → p ∉ owns

theorem seesC_get {σ : Nat → Nat} {k : Nat} {owns : List Nat} {hp : Hp} : ∀ {hp0 : Hp} {sl : List Nat}, seesC σ k owns hp hp0 sl →
    sl.length = hp0.length ∧ ∀ (i : Nat) (e0 : Ent), hp0[i]? = some e0 → ∃ s e, sl[i]? = some s ∧ hp[s]? = some e ∧ Head σ k owns s e e0
  | [], [], h => ⟨rfl, fun i e0 h => by simp at h⟩
  | [], _ :: _, h => h.elim
  | _ :: _, [], h => h.elim
  | e0 :: r, s :: sr, h => by
    simp only [seesC] at h
    obtain ⟨h1, h2⟩ := h
    obtain ⟨q1, q2⟩ := seesC_get h2
    refine ⟨by simp [q1], fun i x hx => ?_⟩
    cases i with
    | succ i =>
      simp at hx
      obtain ⟨s', e', g1, g2⟩ := q2 i x hx
      exact ⟨s', e', by simpa using g1, g2⟩
    | zero =>
      simp at hx; subst hx
      obtain ⟨e, g1, g2⟩ := entK_sound h1
      refine ⟨s, e, by simp, g1, ?_⟩
      split at g2
      case h_2 => exact g2.elim
      rename_i hpar
      split at g2
      · rename_i hro
        obtain ⟨g3, g4, g5⟩ := g2
        subst g5
        exact { par := hpar, live := fun _ => g3, inn := g4, o := fun _ => rfl, esz := rfl, own := fun _ => ⟨rfl, rfl⟩, giv := fun h => (by rw [hro] at h; cases h) }
      · rename_i hro
        obtain ⟨g7, g8, g9, g6⟩ := g2
        have g6' : e0.o.inn k ∧ (e0.o.live = true → e.o = e0.o.ren σ) := by
          cases ho : e0.o <;> rw [ho] at g6 <;> first | exact ⟨g6.2, fun _ => g6.1⟩ | exact ⟨trivial, fun h => (by cases h)⟩
        refine { par := hpar, live := fun h => (by rw [hro] at h; cases h), inn := g6'.1, o := g6'.2, esz := g7, own := fun h => (by rw [hro] at h; cases h), giv := fun _ => ⟨notIn_iff g8, fun p hp => ?_⟩ }
        rw [hp] at g9
        exact notIn_iff g9

theorem ownsOf_mem : ∀ {sl : List Nat} {hp0 : Hp} {s : Nat}, s ∈ ownsOf sl hp0 ↔ ∃ (i : Nat) (e0 : Ent), sl[i]? = some s ∧ hp0[i]? = some e0 ∧ e0.ro = false
  | [], hp0, s => by simp [ownsOf]
  | _ :: _, [], s => by simp [ownsOf]
  | x :: sl, e :: r, s => by
    have ih := ownsOf_mem (sl := sl) (hp0 := r) (s := s)
    cases hro : e.ro with
    | false =>
      simp only [ownsOf, hro, List.mem_cons, ih]
      constructor
      · rintro (rfl | ⟨i, e0, h1, h2, h3⟩)
        · exact ⟨0, e, by simp, by simp, hro⟩
        · exact ⟨i + 1, e0, by simpa using h1, by simpa using h2, h3⟩
      · rintro ⟨i, e0, h1, h2, h3⟩
        cases i with
        | zero => simp at h1; exact .inl h1.symm
        | succ i => exact .inr ⟨i, e0, by simpa using h1, by simpa using h2, h3⟩
    | true =>
      simp only [ownsOf, hro, ih]
      constructor
      · rintro ⟨i, e0, h1, h2, h3⟩
        exact ⟨i + 1, e0, by simpa using h1, by simpa using h2, h3⟩
      · rintro ⟨i, e0, h1, h2, h3⟩
        cases i with
        | zero => simp at h2; subst h2; rw [hro] at h3; cases h3
        | succ i => exact ⟨i, e0, by simpa using h1, by simpa using h2, h3⟩

theorem owns_inj : ∀ {sl : List Nat} {hp0 : Hp}, noDup (ownsOf sl hp0) = true → ∀ (i j s : Nat) (e e' : Ent), sl[i]? = some s → sl[j]? = some s → hp0[i]? = some e → hp0[j]? = some e' → e.ro = false → e'.ro = false → i = j
  | [], _, _ => fun i j s e e' h => by simp at h
  | _ :: _, [], _ => fun i j s e e' h h' h2 => by simp at h2
  | x :: sl, y :: r, h => by
    intro i j s e e' h1 h2 h3 h4 h5 h6
    have h' : noDup (ownsOf sl r) = true := by
      cases hro : y.ro with
      | true => simpa only [ownsOf, hro] using h
      | false =>
        simp only [ownsOf, hro, noDup] at h
        split at h
        · exact h
        · cases h
    have key : ∀ (i : Nat) (e : Ent), y.ro = false → sl[i]? = some x → r[i]? = some e → e.ro = false → False := by
      intro i e hy g1 g2 g3
      simp only [ownsOf, hy, noDup] at h
      split at h
      · rename_i hn
        exact notIn_iff hn (ownsOf_mem.2 ⟨i, e, g1, g2, g3⟩)
      · cases h
    cases i with
    | zero =>
      cases j with
      | zero => rfl
      | succ j =>
        simp at h1 h3 h2 h4
        subst h1 h3
        exact (key j e' h5 h2 h4 h6).elim
    | succ i =>
      cases j with
      | zero =>
        simp at h1 h3 h2 h4
        subst h2 h4
        exact (key i e h6 h1 h3 h5).elim
      | succ j =>
        simp at h1 h3 h2 h4
        rw [owns_inj h' i j s e e' h1 h2 h3 h4 h5 h6]

section
variable {P : Program}

/-! the same, told by what comes behind -/
def natK : Nat → (Nat → Prop) → Prop
  | 0, K => K 0
  | n + 1, K => natK n fun m => K (m + 1)
theorem natK_eq : ∀ (n : Nat) (K : Nat → Prop), natK n K = K n
  | 0, K => rfl
  | n + 1, K => by simp only [natK]; exact natK_eq n _

mutual
def renK (σ : Nat → Nat) : AV → (AV → Prop) → Prop
  | .ptr b i off j, K => natK (σ b) fun b => K (.ptr b i off j)
  | .sl b off len cap, K => natK (σ b) fun b => K (.sl b off len cap)
  | .mp b, K => natK (σ b) fun b => K (.mp b)
  | .agg vs, K => rensK σ vs fun vs => K (.agg vs)
  | .tup vs, K => rensK σ vs fun vs => K (.tup vs)
  | .fn f caps, K => rensK σ caps fun vs => K (.fn f vs)
  | .int k n, K => K (.int k n)
  | .bool b, K => K (.bool b)
  | .str l, K => K (.str l)
  | .con v, K => K (.con v)
  | .ints k n xs, K => K (.ints k n xs)
  | .top, K => K .top
def rensK (σ : Nat → Nat) : List AV → (List AV → Prop) → Prop
  | [], K => K []
  | v :: vs, K => renK σ v fun v => rensK σ vs fun vs => K (v :: vs)
end
mutual
theorem renK_eq (σ : Nat → Nat) : ∀ (v : AV) (K : AV → Prop), renK σ v K = K (v.ren σ)
  | .ptr b i off j, K => by simp only [renK, AV.ren, natK_eq]
  | .sl b off len cap, K => by simp only [renK, AV.ren, natK_eq]
  | .mp b, K => by simp only [renK, AV.ren, natK_eq]
  | .agg vs, K => by simp only [renK, AV.ren]; exact rensK_eq σ vs _
  | .tup vs, K => by simp only [renK, AV.ren]; exact rensK_eq σ vs _
  | .fn f vs, K => by simp only [renK, AV.ren]; exact rensK_eq σ vs _
  | .int k n, K => by simp only [renK, AV.ren]
  | .bool b, K => by simp only [renK, AV.ren]
  | .str l, K => by simp only [renK, AV.ren]
  | .con v, K => by simp only [renK, AV.ren]
  | .ints k n xs, K => by simp only [renK, AV.ren]
  | .top, K => by simp only [renK, AV.ren]
theorem rensK_eq (σ : Nat → Nat) : ∀ (vs : List AV) (K : List AV → Prop), rensK σ vs K = K (AV.rens σ vs)
  | [], K => by simp only [rensK, AV.rens]
  | v :: vs, K => by
    simp only [rensK, AV.rens]
    rw [renK_eq σ v]
    exact rensK_eq σ vs _
end
def renOK (σ : Nat → Nat) : AObj → (AObj → Prop) → Prop
  | .gone, K => K .gone
  | .ints k xs, K => K (.ints k xs)
  | .var vs, K => rensK σ vs fun vs => K (.var vs)
  | .row els, K => K (.row (els.map (AV.rens σ)))
  | .map k n es c, K => K (.map k n (es.map fun e => (e.1, e.2.1, AV.ren σ e.2.2)) c)
  | .iter m a s l, K => natK (σ m) fun m => K (.iter m a s l)
theorem renOK_eq (σ : Nat → Nat) (o : AObj) (K : AObj → Prop) : renOK σ o K = K (o.ren σ) := by
  cases o <;> simp only [renOK, AObj.ren, rensK_eq, natK_eq]
def cleanK (σ : Nat → Nat) (e : Ent) (K : AObj → Prop) : Prop :=
  match e.ro with
  | false => (match e.par with
    | none => renOK σ e.o K
    | some _ => K .gone)
  | true => K .gone
theorem cleanK_eq (σ : Nat → Nat) (e : Ent) (K : AObj → Prop) : cleanK σ e K = K (cleanO σ e) := by
  unfold cleanK cleanO
  split
  · split
    · exact renOK_eq σ _ K
    · rfl
  · rfl
def mergeEK (sl : List Nat) (σ : Nat → Nat) (hp0 hp0' : Hp) (j : Nat) (e : Ent) (K : Ent → Prop) : Prop :=
  match seek sl hp0 j with
  | some e0 => (match e0.ro with
    | true => K e
    | false => (match seek sl hp0' j with
      | some e1 => (match e with | ⟨z, _, _, _⟩ => cleanK σ e1 fun o => K ⟨z, false, none, o⟩)
      | none => K e))
  | none => (match e.par with
    | some p => (match seek sl hp0 p with
      | some e0 => (match e0.ro with
        | false => (match e with | ⟨z, r, q, _⟩ => K ⟨z, r, q, .gone⟩)
        | true => K e)
      | none => K e)
    | none => K e)
theorem mergeEK_eq (sl : List Nat) (σ : Nat → Nat) (hp0 hp0' : Hp) (j : Nat) (e : Ent) (K : Ent → Prop) : mergeEK sl σ hp0 hp0' j e K = K (mergeE sl σ hp0 hp0' j e) := by
  unfold mergeEK mergeE
  split
  · split
    · rfl
    · split
      · exact cleanK_eq σ _ _
      · rfl
  · split
    · split
      · split
        · rfl
        · rfl
      · rfl
    · rfl
def mergeOldK (sl : List Nat) (σ : Nat → Nat) (hp0 hp0' : Hp) : Nat → Hp → (Hp → Prop) → Prop
  | _, [], K => K []
  | j, e :: r, K => mergeEK sl σ hp0 hp0' j e fun e => mergeOldK sl σ hp0 hp0' (j + 1) r fun r => K (e :: r)
theorem mergeOldK_eq (sl : List Nat) (σ : Nat → Nat) (hp0 hp0' : Hp) : ∀ (hp : Hp) (j : Nat) (K : Hp → Prop), mergeOldK sl σ hp0 hp0' j hp K = K (mergeOld sl σ hp0 hp0' j hp)
  | [], j, K => rfl
  | e :: r, j, K => by
    simp only [mergeOldK, mergeOld, mergeEK_eq]
    exact mergeOldK_eq sl σ hp0 hp0' r (j + 1) _
def mergeNewK (σ : Nat → Nat) : Nat → Hp → (Hp → Prop) → Prop
  | _, [], K => K []
  | k + 1, _ :: r, K => mergeNewK σ k r K
  | 0, e :: r, K => (match e with | ⟨z, ro, q, o⟩ => cleanK σ ⟨z, ro, q, o⟩ fun o => mergeNewK σ 0 r fun r => K (⟨z, false, none, o⟩ :: r))
theorem mergeNewK_eq (σ : Nat → Nat) : ∀ (k : Nat) (hp : Hp) (K : Hp → Prop), mergeNewK σ k hp K = K (mergeNew σ k hp)
  | 0, [], K => rfl
  | k + 1, [], K => rfl
  | k + 1, _ :: r, K => by simp only [mergeNewK, mergeNew]; exact mergeNewK_eq σ k r K
  | 0, e :: r, K => by
    simp only [mergeNewK, mergeNew, cleanK_eq]
    exact mergeNewK_eq σ 0 r _
def appHpK : Hp → Hp → (Hp → Prop) → Prop
  | [], b, K => K b
  | e :: a, b, K => appHpK a b fun r => K (e :: r)
theorem appHpK_eq : ∀ (a b : Hp) (K : Hp → Prop), appHpK a b K = K (a ++ b)
  | [], b, K => rfl
  | e :: a, b, K => by simp only [appHpK]; exact appHpK_eq a b _

/-- what comes behind a call: its value and the memory are computed first -/
def Then (sl : List Nat) (hp hp0 : Hp) (r0 : AV) (hp0' : Hp) (K : AV → Hp → Prop) : Prop :=
  renK (sig sl hp.length) r0 fun r => mergeOldK sl (sig sl hp.length) hp0 hp0' 0 hp fun a => mergeNewK (sig sl hp.length) hp0.length hp0' fun b => appHpK a b fun hp' => K r hp'
theorem Then_eq (sl : List Nat) (hp hp0 : Hp) (r0 : AV) (hp0' : Hp) (K : AV → Hp → Prop) : Then sl hp hp0 r0 hp0' K = K (r0.ren (sig sl hp.length)) (merge sl hp hp0 hp0') := by
  unfold Then merge
  rw [renK_eq, mergeOldK_eq, mergeNewK_eq, appHpK_eq]

theorem AC.frame {f : FuncId} {args0 args : List AV} {hp0 hp : Hp} {K0 K : AV → Hp → Prop} (h : AC P f args0 hp0 K0) (sl : List Nat)
    (hsee : seesC (sig sl hp.length) hp0.length (ownsOf sl hp0) hp hp0 sl) (hnd : noDup (ownsOf sl hp0) = true) (hin : AV.inns hp0.length args0) (hargs : args = AV.rens (sig sl hp.length) args0)
    (hK : ∀ r0 hp0', K0 r0 hp0' → Then sl hp hp0 r0 hp0' K) : AC P f args hp K := by
  unfold AC at h ⊢
  refine ⟨h.1, fun w0 ρ w vs hs hvs => ?_⟩
  obtain ⟨hsl, hget⟩ := seesC_get hsee
  have hσ : ∀ (i s : Nat), sl[i]? = some s → sig sl hp.length i = s := fun i s h => sig_lt sl hp.length i s h
  let own (j : Nat) : Prop := ∃ (i : Nat) (e0 : Ent), hp0[i]? = some e0 ∧ e0.ro = false ∧ e0.o.lv (ρ (sig sl hp.length i)) = true ∧ j = (ρ (sig sl hp.length i)).blk
  let base : Base := ⟨w, fun j => j < w.heap.size ∧ ¬ own j, []⟩
  -- what lies still over there lies still here
  have hF : ∀ j, w0.F j → base.F j := by
    intro j hj
    refine ⟨hs.size j hj, ?_⟩
    rintro ⟨i, e0, h1, h2, hlv, h3⟩
    obtain ⟨s, e, g1, g2, g3⟩ := hget i e0 h1
    rw [hσ i s g1] at h3 hlv
    have := hs.own s e g2 (g3.own h2).1 (by rw [g3.o (g3.live h2), AObj.ren_lv]; exact hlv)
    exact this.1 (h3 ▸ hj)
  -- a block of the caller that is not the callee's lies still
  have hstill : ∀ (j : Nat) (e : Ent), hp[j]? = some e → e.o.lv (ρ j) = true → j ∉ ownsOf sl hp0 → (∀ p, e.par = some p → p ∉ ownsOf sl hp0) → base.F (ρ j).blk := by
    intro j e hj hl hno hpar
    refine ⟨(hs.obj j e hj).lt hl, ?_⟩
    rintro ⟨i, e0, h1, h2, hlv, h3⟩
    obtain ⟨s, e', g1, g2, g3⟩ := hget i e0 h1
    rw [hσ i s g1] at h3 hlv
    have hso : s ∈ ownsOf sl hp0 := ownsOf_mem.2 ⟨i, e0, g1, h1, h2⟩
    have hl' : e'.o.lv (ρ s) = true := by rw [g3.o (g3.live h2), AObj.ren_lv]; exact hlv
    cases hro : e.ro with
    | false => exact hs.apart j s e e' hj g2 (fun g => hno (g ▸ hso)) hro (g3.own h2).1 hl hl' h3
    | true =>
      cases hp' : e.par with
      | none =>
        have q1 := hs.given j e hj hro hp' hl
        have q2 := hs.own s e' g2 (g3.own h2).1 hl'
        exact q2.1 (h3 ▸ q1)
      | some p =>
        obtain ⟨_, q1, e'', q2, q3, q4⟩ := hs.views j e p hj hp' hl
        rw [q1] at h3
        exact hs.apart p s e'' e' q2 g2 (fun g => hpar p hp' (g ▸ hso)) q3 (g3.own h2).1 q4 hl' h3
  have hs0 : HSat base (fun i => ρ (sig sl hp.length i)) hp0 w := by
    refine ⟨fun i hi => hi.1, fun i hi => rfl, rfl, rfl, rfl, ?_, ?_, ?_, ?_, ?_, ?_⟩
    · intro i e0 h1
      obtain ⟨s, e, g1, g2, g3⟩ := hget i e0 h1
      simp only [hσ i s g1]; rw [hs.esz s e g2, g3.esz]
    · intro i e0 h1
      obtain ⟨s, e, g1, g2, g3⟩ := hget i e0 h1
      have ho := hs.obj s e g2
      simp only [hσ i s g1]
      cases hlv : e0.o.live with
      | false => exact obj_dead (fun g => by rw [lv_live g] at hlv; cases hlv)
      | true =>
      rw [g3.o hlv] at ho
      exact ObjOk_unren (σ := sig sl hp.length) (ρ1 := ρ) (fun _ _ => rfl) (fun hr => (g3.own hr).1) g3.inn ho
    · intro i e0 h1 h2 h3
      obtain ⟨s, e, g1, g2, g3⟩ := hget i e0 h1
      refine ⟨fun g => g.2 ⟨i, e0, h1, h2, h3, rfl⟩, ?_⟩
      rw [hσ i s g1] at h3 ⊢
      exact (hs.obj s e g2).lt (by rw [g3.o (lv_live h3), AObj.ren_lv]; exact h3)
    · intro i e0 p h1 h2 h3
      obtain ⟨s, e, g1, g2, g3⟩ := hget i e0 h1
      rw [g3.par] at h2; cases h2
    · intro i e0 h1 h2 h3 h4
      obtain ⟨s, e, g1, g2, g3⟩ := hget i e0 h1
      simp only [hσ i s g1] at h4 ⊢
      exact hstill s e g2 (by rw [g3.o (lv_live h4), AObj.ren_lv]; exact h4) (g3.giv h2).1 (g3.giv h2).2
    · intro i j e e' h1 h2 hne h3 h4 h5 h6
      obtain ⟨s, e1, g1, g2, g3⟩ := hget i e h1
      obtain ⟨s', e1', g1', g2', g3'⟩ := hget j e' h2
      simp only [hσ i s g1] at h5 ⊢
      simp only [hσ j s' g1'] at h6 ⊢
      refine hs.apart s s' e1 e1' g2 g2' (fun g => ?_) (g3.own h3).1 (g3'.own h4).1 (by rw [g3.o (lv_live h5), AObj.ren_lv]; exact h5) (by rw [g3'.o (lv_live h6), AObj.ren_lv]; exact h6)
      subst g
      exact hne (owns_inj hnd i j s e e' g1 g1' h1 h2 h3 h4)
  have hvs0 : VRs (fun i => ρ (sig sl hp.length i)) hp0.length args0 vs := VRs_unren (σ := sig sl hp.length) (ρ1 := ρ) (fun _ _ => rfl) args0 vs hin (hargs ▸ hvs)
  refine (h.2 base _ w vs hs0 hvs0).mono ?_
  rintro e w' ⟨r0, v, hp0', ρ0', rfl, k1, k2, k3, k4, k5⟩
  -- the memory behind the call
  let ρ' : Nat → Loc := fun j => if j < hp.length then ρ j else ρ0' (hp0.length + (j - hp.length))
  have hρlt : ∀ j, j < hp.length → ρ' j = ρ j := fun j hj => by simp [ρ', hj]
  have hlen : (merge sl hp hp0 hp0').length = hp.length + (hp0'.length - hp0.length) := by
    simp [merge, mergeOld_length, mergeNew_eq]
  have hslt : ∀ (i s : Nat), sl[i]? = some s → s < hp.length := by
    intro i s hi
    have : i < hp0.length := by
      rw [← hsl]
      rcases Nat.lt_or_ge i sl.length with g | g
      · exact g
      · rw [List.getElem?_eq_none g] at hi; cases hi
    obtain ⟨s', e, g1, g2, g3⟩ := hget i hp0[i] (List.getElem?_eq_getElem this)
    rw [hi] at g1; cases g1
    rcases Nat.lt_or_ge s hp.length with g | g
    · exact g
    · rw [List.getElem?_eq_none g] at g2; cases g2
  have hsig : ∀ b, b < hp0'.length → sig sl hp.length b < (merge sl hp hp0 hp0').length ∧ ρ' (sig sl hp.length b) = ρ0' b := by
    intro b hb
    rw [hlen]
    rcases Nat.lt_or_ge b hp0.length with g | g
    · have g' : b < sl.length := by omega
      have e1 : sl[b]? = some sl[b] := by simp [g']
      rw [hσ b _ e1]
      have := hslt b _ e1
      refine ⟨by omega, ?_⟩
      rw [hρlt _ this, k5 b g, hσ b _ e1]
    · rw [sig_ge sl hp.length b (by omega), hsl]
      refine ⟨by omega, ?_⟩
      simp only [ρ']
      rw [if_neg (by omega)]
      congr 1; omega
  have hVR : VR ρ' (merge sl hp hp0 hp0').length (r0.ren (sig sl hp.length)) v := VR_ren hsig r0 v k2
  -- what an entry of the memory behind the call is
  have hent : ∀ (j : Nat) (e : Ent), (merge sl hp hp0 hp0')[j]? = some e →
      (∃ e1, hp[j]? = some e1 ∧ j < hp.length ∧ e.esz = e1.esz ∧ (e.o.live = true → e = e1 ∧ j ∉ ownsOf sl hp0 ∧ ∀ p, e1.par = some p → p ∉ ownsOf sl hp0)) ∨
      (∃ i e1, hp0'[i]? = some e1 ∧ j = sig sl hp.length i ∧ e.esz = e1.esz ∧ e.ro = false ∧ e.par = none ∧ (j < hp.length → j ∈ ownsOf sl hp0) ∧ (e.o.live = true → e1.ro = false ∧ e1.par = none ∧ e.o = e1.o.ren (sig sl hp.length))) := by
    intro j e hj
    have clean : ∀ e1 : Ent, (cleanO (sig sl hp.length) e1).live = true → e1.ro = false ∧ e1.par = none ∧ cleanO (sig sl hp.length) e1 = e1.o.ren (sig sl hp.length) := by
      intro e1 hl
      unfold cleanO at hl ⊢
      cases hr : e1.ro <;> cases hp : e1.par <;> simp_all [AObj.live]
    rcases Nat.lt_or_ge j hp.length with g | g
    · simp only [merge] at hj
      rw [List.getElem?_append_left (by rw [mergeOld_length]; exact g), mergeOld_get, Nat.zero_add, List.getElem?_eq_getElem g] at hj
      simp only [Option.map_some, Option.some.injEq] at hj
      unfold mergeE at hj
      have hjg : hp[j]? = some hp[j] := by simp [g]
      split at hj
      · rename_i e0 hk0
        obtain ⟨i, q1, q2⟩ := seek_some hk0
        split at hj
        · rename_i hro
          refine .inl ⟨hp[j], hjg, g, by rw [← hj], fun _ => ⟨hj.symm, ?_⟩⟩
          obtain ⟨s, x, g1, g2, g3⟩ := hget i e0 q2
          rw [q1] at g1; cases g1
          rw [hjg] at g2; cases g2
          exact g3.giv hro
        · rename_i hro
          have hi' : i < hp0'.length := by
            have : i < hp0.length := by
              rcases Nat.lt_or_ge i hp0.length with g | g
              · exact g
              · rw [List.getElem?_eq_none g] at q2; cases q2
            omega
          have hmem : j ∈ ownsOf sl hp0 := ownsOf_mem.2 ⟨i, e0, q1, q2, hro⟩
          obtain ⟨s, x, g1, g2, g3⟩ := hget i e0 q2
          rw [q1] at g1; cases g1
          rw [hjg] at g2
          have hfirst : ∀ i', i' < i → sl[i']? ≠ some j := by
            intro i' hi'' hs'
            have hi0 : i' < hp0.length := by
              rw [← hsl]
              rcases Nat.lt_or_ge i' sl.length with g | g
              · exact g
              · rw [List.getElem?_eq_none g] at hs'; cases hs'
            cases hro' : (hp0[i']).ro with
            | false =>
              have := owns_inj hnd i' i j _ e0 hs' q1 (List.getElem?_eq_getElem hi0) q2 hro' hro
              omega
            | true =>
              obtain ⟨s', x', g1', g2', g3'⟩ := hget i' hp0[i'] (List.getElem?_eq_getElem hi0)
              rw [hs'] at g1'; cases g1'
              exact (g3'.giv hro').1 hmem
          have hk1 := seek_find (hp := hp0') q1 hi' hfirst
          rw [List.getElem?_eq_getElem hi'] at hk1
          rw [hk1] at hj
          simp only at hj
          refine .inr ⟨i, hp0'[i], List.getElem?_eq_getElem hi', (hσ i j q1).symm, ?_, by rw [← hj], by rw [← hj], fun _ => hmem, fun hl => ?_⟩
          · have q5 := k3.esz i _ (List.getElem?_eq_getElem hi')
            have : i < hp0.length := by
              rcases Nat.lt_or_ge i hp0.length with g | g
              · exact g
              · rw [List.getElem?_eq_none g] at q2; cases q2
            rw [k5 i this, hσ i j q1] at q5
            rw [← hj, ← q5]
            simp only
            rw [hs.esz j _ hjg]
          · subst hj
            simp only at hl ⊢
            exact clean _ hl
      · rename_i hk0
        have hno : j ∉ ownsOf sl hp0 := by
          intro hm
          obtain ⟨i, e0, q1, q2, q3⟩ := ownsOf_mem.1 hm
          have hi0 : i < hp0.length := by
            rcases Nat.lt_or_ge i hp0.length with g | g
            · exact g
            · rw [List.getElem?_eq_none g] at q2; cases q2
          -- the first place of 'j'
          have : ∀ (sl : List Nat) (hp0 : Hp) (i : Nat), sl[i]? = some j → i < hp0.length → seek sl hp0 j = none → False := by
            intro sl
            induction sl with
            | nil => intro hp0 i h; simp at h
            | cons x sl ih =>
              intro hp0 i h1 h2 h3
              cases hp0 with
              | nil => simp at h2
              | cons y r =>
                simp only [seek] at h3
                split at h3
                · cases h3
                · rename_i hb
                  cases i with
                  | zero => simp at h1; subst h1; simp at hb
                  | succ i => simp at h1 h2; exact ih r i h1 h2 h3
          exact this sl hp0 i q1 hi0 hk0
        split at hj
        · rename_i p hpar
          split at hj
          · rename_i e0 hk1
            split at hj
            · subst hj
              exact .inl ⟨hp[j], hjg, g, rfl, fun hl => by simp [AObj.live] at hl⟩
            · rename_i hro
              refine .inl ⟨hp[j], hjg, g, by rw [← hj], fun _ => ⟨hj.symm, hno, fun p' hp' => ?_⟩⟩
              rw [hpar] at hp'; cases hp'
              intro hm
              obtain ⟨i, e1, q1, q2, q3⟩ := ownsOf_mem.1 hm
              obtain ⟨i0, r1, r2⟩ := seek_some hk1
              obtain ⟨s', x', g1', g2', g3'⟩ := hget i0 e0 r2
              rw [r1] at g1'; cases g1'
              exact (g3'.giv hro).1 hm
          · rename_i hk1
            refine .inl ⟨hp[j], hjg, g, by rw [← hj], fun _ => ⟨hj.symm, hno, fun p' hp' => ?_⟩⟩
            rw [hpar] at hp'; cases hp'
            intro hm
            obtain ⟨i, e1, q1, q2, q3⟩ := ownsOf_mem.1 hm
            have : ∀ (sl : List Nat) (hp0 : Hp) (i : Nat), sl[i]? = some p → (∃ e, hp0[i]? = some e) → seek sl hp0 p = none → False := by
              intro sl
              induction sl with
              | nil => intro hp0 i h; simp at h
              | cons x sl ih =>
                intro hp0 i h1 h2 h3
                cases hp0 with
                | nil => simp at h2
                | cons y r =>
                  simp only [seek] at h3
                  split at h3
                  · cases h3
                  · rename_i hb
                    cases i with
                    | zero => simp at h1; subst h1; simp at hb
                    | succ i => simp at h1 h2; exact ih r i h1 (by simpa using h2) h3
            exact this sl hp0 i q1 ⟨e1, q2⟩ hk1
        · rename_i hpar
          refine .inl ⟨hp[j], hjg, g, by rw [← hj], fun _ => ⟨hj.symm, hno, fun p' hp' => ?_⟩⟩
          rw [hpar] at hp'; cases hp'
    · simp only [merge] at hj
      rw [List.getElem?_append_right (by rw [mergeOld_length]; exact g), mergeOld_length, mergeNew_eq, List.getElem?_map, List.getElem?_drop] at hj
      simp only [Option.map_eq_some_iff] at hj
      obtain ⟨e1, q1, q2⟩ := hj
      refine .inr ⟨hp0.length + (j - hp.length), e1, q1, ?_, by rw [← q2], by rw [← q2], by rw [← q2], fun g' => by omega, fun hl => ?_⟩
      · rw [sig_ge _ _ _ (by omega), hsl]; omega
      · subst q2; exact clean _ hl
  have hlt' : ∀ (i : Nat) (e1 : Ent), hp0'[i]? = some e1 → i < hp0'.length := fun i e1 h => by
    rcases Nat.lt_or_ge i hp0'.length with g | g
    · exact g
    · rw [List.getElem?_eq_none g] at h; cases h
  refine ⟨r0.ren (sig sl hp.length), v, merge sl hp hp0 hp0', ρ', rfl, (Then_eq sl hp hp0 r0 hp0' K) ▸ hK _ _ k1, hVR, ?_, by rw [hlen]; omega, hρlt⟩
  refine ⟨fun i hi => k3.size i (hF i hi), fun i hi => ?_, by rw [k3.tape]; exact hs.tape, by rw [k3.os]; exact hs.os, by rw [k3.out]; exact hs.out, ?_, ?_, ?_, ?_, ?_, ?_⟩
  · rw [k3.old i (hF i hi)]; exact hs.old i hi
  · intro j e hj
    rcases hent j e hj with ⟨e1, q1, q2, q3, q4⟩ | ⟨i, e1, q1, rfl, q3, q4⟩
    · rw [hρlt j q2, hs.esz j e1 q1, q3]
    · rw [(hsig i (hlt' i e1 q1)).2, k3.esz i e1 q1, q3]
  · intro j e hj
    by_cases hlv : e.o.lv (ρ' j) = true
    case neg => exact obj_dead hlv
    case pos =>
      have hl := lv_live hlv
      rcases hent j e hj with ⟨e1, q1, q2, q3, q4⟩ | ⟨i, e1, q1, rfl, q3, q4, q5, q6, q7⟩
      · obtain ⟨rfl, q5, q6⟩ := q4 hl
        rw [hρlt j q2] at hlv ⊢
        refine ObjOk_mono (by rw [hlen]; omega) (fun b hb => hρlt b hb) ?_ (hs.obj j e q1)
        exact k3.old _ (hstill j e q1 hlv q5 q6)
      · obtain ⟨g1, g2, g3⟩ := q7 hl
        rw [(hsig i (hlt' i e1 q1)).2, g3, q4]
        have := k3.obj i e1 q1
        rw [g1] at this
        exact ObjOk_ren hsig this
  · intro j e hj hro hl
    rcases hent j e hj with ⟨e1, q1, q2, q3, q4⟩ | ⟨i, e1, q1, rfl, q3, q4, q5, q6, q7⟩
    · obtain ⟨rfl, q5, q6⟩ := q4 (lv_live hl)
      rw [hρlt j q2] at hl ⊢
      exact ⟨(hs.own j e q1 hro hl).1, k3.size _ (hstill j e q1 hl q5 q6)⟩
    · obtain ⟨g1, g2, g3⟩ := q7 (lv_live hl)
      rw [(hsig i (hlt' i e1 q1)).2] at hl ⊢
      have := k3.own i e1 q1 g1 (by rw [g3, AObj.ren_lv] at hl; exact hl)
      exact ⟨fun g => this.1 (hF _ g), this.2⟩
  · intro j e p hj hp' hl
    rcases hent j e hj with ⟨e1, q1, q2, q3, q4⟩ | ⟨i, e1, q1, rfl, q3, q4, q5, q6, q7⟩
    · obtain ⟨rfl, q5, q6⟩ := q4 (lv_live hl)
      rw [hρlt j q2] at hl
      obtain ⟨g1, g2, e', g3, g4, g5⟩ := hs.views j e p q1 hp' hl
      have hplt : p < hp.length := by
        rcases Nat.lt_or_ge p hp.length with g | g
        · exact g
        · rw [List.getElem?_eq_none g] at g3; cases g3
      refine ⟨g1, by rw [hρlt j q2, hρlt p hplt]; exact g2, e', ?_, g4, by rw [hρlt p hplt]; exact g5⟩
      -- the parent stands as it stood
      have hpo := q6 p hp'
      simp only [merge]
      rw [List.getElem?_append_left (by rw [mergeOld_length]; exact hplt), mergeOld_get, Nat.zero_add, g3]
      simp only [Option.map_some, Option.some.injEq]
      have hpp : e'.par = none := by
        cases hq : e'.par with
        | none => rfl
        | some q => have := (hs.views p e' q g3 hq g5).1; rw [g4] at this; cases this
      unfold mergeE
      split
      · rename_i e0 hk0
        obtain ⟨i, r1, r2⟩ := seek_some hk0
        cases hro0 : e0.ro with
        | true => rfl
        | false => exact absurd (ownsOf_mem.2 ⟨i, e0, r1, r2, hro0⟩) hpo
      · rw [hpp]
    · rw [q5] at hp'; cases hp'
  · intro j e hj hro hp' hl
    rcases hent j e hj with ⟨e1, q1, q2, q3, q4⟩ | ⟨i, e1, q1, rfl, q3, q4, q5, q6, q7⟩
    · obtain ⟨rfl, q5, q6⟩ := q4 (lv_live hl)
      rw [hρlt j q2] at hl ⊢; exact hs.given j e q1 hro hp' hl
    · rw [q4] at hro; cases hro
  · intro j j' e e' hj hj' hne hro hro' hl hl'
    rcases hent j e hj with ⟨e1, q1, q2, q3, q4⟩ | ⟨i, e1, q1, rfl, q3, q4, q5, q6, q7⟩ <;> rcases hent j' e' hj' with ⟨e1', q1', q2', q3', q4'⟩ | ⟨i', e1', q1', rfl, q3', q4', q5', q6', q7'⟩
    · obtain ⟨rfl, q5, q6⟩ := q4 (lv_live hl)
      obtain ⟨rfl, q5', q6'⟩ := q4' (lv_live hl')
      rw [hρlt j q2] at hl ⊢
      rw [hρlt j' q2'] at hl' ⊢
      exact hs.apart j j' e e' q1 q1' hne hro hro' hl hl'
    · obtain ⟨rfl, q5, q6⟩ := q4 (lv_live hl)
      obtain ⟨g1', g2', g3'⟩ := q7' (lv_live hl')
      rw [hρlt j q2] at hl ⊢
      rw [(hsig i' (hlt' i' e1' q1')).2] at hl' ⊢
      have r1 := hstill j e q1 hl q5 q6
      have r2 := k3.own i' e1' q1' g1' (by rw [g3', AObj.ren_lv] at hl'; exact hl')
      exact fun g => r2.1 (g ▸ r1)
    · obtain ⟨g1, g2, g3⟩ := q7 (lv_live hl)
      obtain ⟨rfl, q5', q6'⟩ := q4' (lv_live hl')
      rw [hρlt j' q2'] at hl' ⊢
      rw [(hsig i (hlt' i e1 q1)).2] at hl ⊢
      have r1 := hstill j' e' q1' hl' q5' q6'
      have r2 := k3.own i e1 q1 g1 (by rw [g3, AObj.ren_lv] at hl; exact hl)
      exact fun g => r2.1 (g ▸ r1)
    · obtain ⟨g1, g2, g3⟩ := q7 (lv_live hl)
      obtain ⟨g1', g2', g3'⟩ := q7' (lv_live hl')
      rw [(hsig i (hlt' i e1 q1)).2] at hl ⊢
      rw [(hsig i' (hlt' i' e1' q1')).2] at hl' ⊢
      exact k3.apart i i' e1 e1' q1 q1' (fun g => hne (by rw [g])) g1 g1' (by rw [g3, AObj.ren_lv] at hl; exact hl) (by rw [g3', AObj.ren_lv] at hl'; exact hl')

mutual
theorem ren_none (σ : Nat → Nat) : ∀ v : AV, v.inn 0 → v.ren σ = v
  | .int k x, h => by simp [AV.ren]
  | .bool b, h => by simp [AV.ren]
  | .str l, h => by simp [AV.ren]
  | .con l, h => by simp [AV.ren]
  | .ptr b i off j, h => by simp [AV.inn] at h
  | .sl b off len cap, h => by simp [AV.inn] at h
  | .mp b, h => by simp [AV.inn] at h
  | .ints k m xs, h => by simp [AV.ren]
  | .agg vs, h => by simp only [AV.ren]; rw [rens_none σ vs (by simpa [AV.inn] using h)]
  | .tup vs, h => by simp only [AV.ren]; rw [rens_none σ vs (by simpa [AV.inn] using h)]
  | .fn f vs, h => by simp only [AV.ren]; rw [rens_none σ vs (by simpa [AV.inn] using h)]
  | .top, h => by simp [AV.ren]
theorem rens_none (σ : Nat → Nat) : ∀ vs : List AV, AV.inns 0 vs → AV.rens σ vs = vs
  | [], h => by simp [AV.rens]
  | v :: vs, h => by
    simp only [AV.inns] at h
    simp only [AV.rens]
    rw [ren_none σ v h.1, rens_none σ vs h.2]
end

theorem merge_nil (hp : Hp) : merge [] hp [] [] = hp := by
  have : ∀ (hp : Hp) (σ : Nat → Nat) (j : Nat), mergeOld [] σ [] [] j hp = hp := by
    intro hp σ
    induction hp with
    | nil => intro j; rfl
    | cons e r ih =>
      intro j
      simp only [mergeOld, ih]
      congr 1
      simp only [mergeE, seek]
      cases e.par <;> rfl
  simp [merge, this, mergeNew]

/-- a call that asks for no memory and leaves none -/
theorem AC.pure {f : FuncId} {args : List AV} {hp : Hp} {v : AV} {K : AV → Hp → Prop} (h : AC P f args [] fun r hp' => r = v ∧ hp' = []) (hin : AV.inns 0 args) (hv : v.inn 0) (hK : K v hp) : AC P f args hp K := by
  refine AC.frame h [] trivial rfl hin (rens_none _ args hin).symm ?_
  rintro r0 hp0' ⟨rfl, rfl⟩
  rw [Then_eq, ren_none _ _ hv, merge_nil]
  exact hK
end
end Go.Aw
end

section
/-
  AwT: a table of types, held against the program by computing. Own work of this session.
-/
set_option linter.unusedVariables false
set_option linter.unusedSimpArgs false
namespace Go.Aw

def zCell : AV → Value → Bool
  | .int k n, .int k' n' => decide (k = k') && n == n'
  | .bool b, .bool b' => b == b'
  | .str l, .string s => l.isEmpty && s.data.size == 0
  | .con (.pointer none), .pointer none => true
  | .con (.slice none 0 0), .slice none 0 0 => true
  | .con (.map none), .map none => true
  | .con .nilFunc, .nilFunc => true
  | .con .nilIface, .nilIface => true
  | _, _ => false

def zMatch : List AV → List Value → Bool
  | [], cs => cs.isEmpty
  | .ints k m xs :: vs, cs => xs.length == m && Nat.ble m cs.length && ((List.zip xs (cs.take m)).all fun p => match p.2 with | .int k' n => decide (k = k') && p.1 == n | _ => false) && zMatch vs (cs.drop m)
  | v :: vs, c :: cs => zCell v c && zMatch vs cs
  | _ :: _, [] => false

theorem zCell_sound {ρ : Nat → Loc} {n : Nat} {v : AV} {c : Value} (h : zCell v c = true) : c.oneCell' = true ∧ VR ρ n v c ∧ ∀ k m xs, v ≠ .ints k m xs := by
  unfold zCell at h
  split at h <;> simp_all [VR, Value.oneCell']
  all_goals rfl

theorem zMatch_sound {ρ : Nat → Loc} {n : Nat} : ∀ (vs : List AV) (cs : List Value) (g : Nat → Option Value) (off : Nat), zMatch vs cs = true → (∀ j, j < cs.length → g (off + j) = cs[j]?) → CAt ρ n g vs off ∧ cs.length = asz vs := by
  intro vs
  induction vs with
  | nil =>
    intro cs g off h hg
    simp only [zMatch, List.isEmpty_iff] at h
    subst h
    exact ⟨by simp only [CAt], rfl⟩
  | cons v vs ih =>
    intro cs g off h hg
    by_cases hi : ∃ k m xs, v = .ints k m xs
    · obtain ⟨k, m, xs, rfl⟩ := hi
      simp only [zMatch, Bool.and_eq_true, beq_iff_eq, Nat.ble_eq] at h
      obtain ⟨⟨⟨h1, h2⟩, h3⟩, h4⟩ := h
      obtain ⟨h5, h6⟩ := ih (cs.drop m) g (off + m) h4 (fun j hj => by
        simp only [List.length_drop] at hj
        rw [Nat.add_assoc, hg _ (by omega)]; simp)
      refine ⟨?_, ?_⟩
      · simp only [CAt]
        refine ⟨⟨h1, fun j hj => ?_⟩, h5⟩
        rw [hg j (by omega)]
        have hx : j < xs.length := by omega
        have hc : j < cs.length := by omega
        rw [List.all_eq_true] at h3
        have := h3 (xs[j], cs[j]) (by
          rw [List.mem_iff_getElem]
          refine ⟨j, by simp; omega, by simp⟩)
        simp only at this
        rw [List.getElem?_eq_getElem hc]
        split at this
        · rename_i k' nn hcj
          simp only [Bool.and_eq_true, decide_eq_true_eq, beq_iff_eq] at this
          have hcj' : cs[j] = .int k' nn := hcj
          rw [hcj', this.1, List.getD_eq_getElem?_getD, List.getElem?_eq_getElem hx]
          simp [this.2]
        · cases this
      · simp only [asz, AV.sz, ← h6, List.length_drop]; omega
    · have hn : ∀ k m xs, v ≠ .ints k m xs := fun k m xs e => hi ⟨k, m, xs, e⟩
      cases cs with
      | nil => cases v <;> simp [zMatch] at h <;> exact absurd rfl (hn _ _ _)
      | cons c cs =>
        have h' : zCell v c = true ∧ zMatch vs cs = true := by
          cases v <;> simp_all [zMatch]
        obtain ⟨h1, h2⟩ := h'
        obtain ⟨q1, q2, _⟩ := zCell_sound (ρ := ρ) (n := n) h1
        obtain ⟨h5, h6⟩ := ih cs g (off + 1) h2 (fun j hj => by
          have := hg (j + 1) (by simpa using hj)
          rw [Nat.add_assoc, Nat.add_comm 1 j, this]; simp)
        refine ⟨?_, ?_⟩
        · rw [CAt_cons hn]
          exact ⟨⟨c, by have := hg 0 (by simp); simpa using this, q1, q2⟩, h5⟩
        · simp only [asz, AV.sz_one hn, List.length_cons, h6]; omega

def tdOkB : TD → TypeDesc → Bool
  | .int k, .int k' => decide (k = k')
  | .bool, .bool => true
  | .str, .string => true
  | .ptr, .pointer _ => true
  | .slice e, .slice e' => e == e'
  | .array n e, .array n' e' => n == n' && e == e'
  | .struct fs, .struct fields => decide (fs = fields.toList.map fun f => (f.offset, f.type))
  | .map k e, .map k' e' => k == k' && e == e'
  | .func, .func _ _ _ => true
  | _, _ => false

theorem tdOkB_sound {d : TD} {e : TypeDesc} (h : tdOkB d e = true) : tdOk d e := by
  unfold tdOkB at h
  split at h <;> simp_all [tdOk]

def tokB (P : Program) (t : TypeId) (i : TI) : Bool :=
  match P.info? t, P.underlying t with
  | some info, some d => info.size == i.sz && info.bytes == i.bys && tdOkB i.d d && (match info.zero with
    | some zv => asz i.z == i.sz && zMatch i.z zv.cells.toList && (i.d.agg || i.sz == 1) && (i.d.agg == match zv with | .agg _ => true | _ => false)
    | none => false) &&
    (match d with | .struct fields => fields.toList.all fun f => (P.info? f.type).isSome | _ => true) &&
    (!i.eq || (P.eqGuardType P.depth t == false && match d with | .struct fields => (P.stoodInHeld t == false) && fields.toList.all fun f => f.name != "_" | _ => true))
  | _, _ => false

theorem tokB_sound {P : Program} {t : TypeId} {i : TI} (h : tokB P t i = true) : ∃ info d zv, P.info? t = some info ∧ info.size = i.sz ∧ info.bytes = i.bys ∧ P.underlying t = some d ∧ tdOk i.d d ∧
    info.zero = some zv ∧ asz i.z = i.sz ∧ ZOk i.z zv.cells.toList ∧ (i.d.agg = false → i.sz = 1) ∧ (i.d.agg = true ↔ ∃ cs, zv = .agg cs) ∧
    (∀ fields, d = .struct fields → ∀ f ∈ fields.toList, (P.info? f.type).isSome = true) ∧
    (i.eq = true → P.eqGuardType P.depth t = false ∧ ∀ fields, d = .struct fields → P.stoodInHeld t = false ∧ ∀ f ∈ fields.toList, f.name ≠ "_") := by
  unfold tokB at h
  split at h
  case h_2 => cases h
  rename_i info d hinfo hd
  simp only [Bool.and_eq_true] at h
  obtain ⟨⟨⟨⟨⟨h1, h2⟩, h3⟩, h4⟩, h5⟩, h6⟩ := h
  split at h4
  case h_2 => cases h4
  rename_i zv hz
  simp only [Bool.and_eq_true, beq_iff_eq] at h1 h2 h4
  obtain ⟨⟨⟨g1, g2⟩, g3⟩, g4⟩ := h4
  refine ⟨info, d, zv, hinfo, h1, h2, hd, tdOkB_sound h3, hz, g1, ⟨fun ρ n => (zMatch_sound _ _ _ 0 g2 (by simp)).1, (zMatch_sound (ρ := fun _ => ⟨0, 0, 0, 0⟩) (n := 0) _ _ (fun j => zv.cells.toList[j]?) 0 g2 (by simp)).2⟩, ?_, ?_, ?_, ?_⟩
  · intro ha
    rw [ha] at g3; simpa using g3
  · rw [g4]
    constructor
    · intro ha
      split at ha
      · exact ⟨_, rfl⟩
      · cases ha
    · rintro ⟨cs, rfl⟩
      rfl
  · intro fields hf f hm
    subst hf
    simp only [List.all_eq_true] at h5
    exact h5 f hm
  · intro he
    rw [he] at h6
    simp only [Bool.not_true, Bool.false_or, Bool.and_eq_true, beq_iff_eq] at h6
    refine ⟨h6.1, fun fields hf => ?_⟩
    subst hf
    have := h6.2
    simp only [Bool.and_eq_true, beq_iff_eq, List.all_eq_true, bne_iff_ne] at this
    exact this

inductive Tr where
  | nil
  | node (k : Nat) (i : TI) (l r : Tr)

def Tr.find : Tr → Nat → Option TI
  | .nil, _ => none
  | .node k i l r, t => match Nat.beq t k with
    | true => some i
    | false => match Nat.ble t k with
      | true => l.find t
      | false => r.find t
def Tr.all (p : Nat → TI → Bool) : Tr → Bool
  | .nil => true
  | .node k i l r => p k i && (l.all p && r.all p)

theorem Tr.all_find {p : Nat → TI → Bool} : ∀ {s : Tr} {t : Nat} {i : TI}, s.all p = true → s.find t = some i → p t i = true
  | .nil, t, i, h, hf => by simp [Tr.find] at hf
  | .node k j l r, t, i, h, hf => by
    simp only [Tr.all, Bool.and_eq_true] at h
    simp only [Tr.find] at hf
    split at hf
    · rename_i hb
      have := Nat.eq_of_beq_eq_true hb
      subst this
      cases hf; exact h.1
    · split at hf
      · exact Tr.all_find h.2.1 hf
      · exact Tr.all_find h.2.2 hf

theorem TOk.of_tree {P : Program} (s : Tr) (h : s.all (tokB P) = true) : TOk P s.find := ⟨fun t i hf => tokB_sound (Tr.all_find h hf)⟩
/-! ### operations of a region that draws its order, held against what they brought -/
def guardK (all : Array Oper) (o : Oper) (fr : Fr) (K : Bool → Prop) : Prop :=
  match o.guard with
  | none => K true
  | some (j, want) => (match (all[j]?).bind (·.dst) with
    | some d => getK d fr fun g => (match g with
      | .bool g => K (g == want)
      | .tup [] => K false
      | _ => False)
    | none => False)

/-- an operation that leaves the memory as it is, and its value is 'v' -/
def PureAt (T : Tab) (fr : Fr) (hp : Hp) (op : Op) (v : AV) : Prop := evOp T fr hp op fun u hp' => u = v ∧ hp' = hp

def againK (T : Tab) (all : Array Oper) (fr : Fr) (hp : Hp) (i : Nat) : Prop :=
  match all[i]? with
  | some o => (match o.dst with
    | some d => guardK all o fr fun b => (match b with
      | true => getK d fr fun v => PureAt T fr hp o.op v
      | false => getK d fr fun v => v = .tup [])
    | none => False)
  | none => False
def againsK (T : Tab) (all : Array Oper) (fr : Fr) (hp : Hp) : List Nat → Prop
  | [] => True
  | i :: r => againK T all fr hp i ∧ againsK T all fr hp r

end Go.Aw
end
