/-
  AwH: operations that make memory. Own work of this session.
-/
import Derived.Test.YtdababcblhbpeaaAwG
import Derived.IntWalk
set_option linter.unusedVariables false
set_option linter.unusedSimpArgs false
namespace Go.Aw

/-- an operation's run ends as the abstract one says -/
def Res (P : Program) (w0 : Base) (ρ : Nat → Loc) (hp : Hp) (w : World) (s : Sem Value) (K : Kont) : Prop :=
  ∃ v cv hp' ρ' w', K v hp' ∧ s.run P w = .ok cv w' ∧ VR ρ' hp'.length v cv ∧ HSat w0 ρ' hp' w' ∧ hp.length ≤ hp'.length ∧ ∀ b, b < hp.length → ρ' b = ρ b

section
variable {P : Program} {T : Tab} (hT : TOk P T) {w0 : Base} {w : World} {ρ : Nat → Loc} {hp : Hp} (hs : HSat w0 ρ hp w)

theorem Res.same {s : Sem Value} {K : Kont} {v : AV} {cv : Value} (hs : HSat w0 ρ hp w) (hK : K v hp) (hr : s.run P w = .ok cv w) (hv : VR ρ hp.length v cv) : Res P w0 ρ hp w s K :=
  ⟨v, cv, hp, ρ, w, hK, hr, hv, hs, Nat.le_refl _, fun _ _ => rfl⟩

def pushed (w : World) (cells : Array Value) (ty : TypeId) : World := { w with heap := w.heap.push (.cells cells ty (0, 0)) }

theorem pushed_at {w w' : World} {o : Obj} (h : w'.heap = w.heap.push o) : w'.heap[w.heap.size]? = some o := by rw [h]; simp

/-- a new block, all of it ours -/
theorem fresh (hs : HSat w0 ρ hp w) {cells : Array Value} {ty : TypeId} {fz : Nat × Nat} (e : Ent) (hro : e.ro = false) (hpar : e.par = none) (w' : World)
    (h1 : w'.heap = w.heap.push (.cells cells ty fz)) (h2 : w'.tape = w.tape) (h3 : w'.os = w.os) (h4 : w'.output = w.output)
    (hobj : ObjOk (upd ρ hp.length ⟨w.heap.size, 0, cells.size, e.esz⟩) (hp.length + 1) w' ⟨w.heap.size, 0, cells.size, e.esz⟩ false e.o) :
    HSat w0 (upd ρ hp.length ⟨w.heap.size, 0, cells.size, e.esz⟩) (hp ++ [e]) w' := by
  have hp1 := hs.push (.cells cells ty fz) w' h1 h2 h3 h4
  refine hp1.add e _ hro hpar rfl (fun _ => ⟨fun g => by have := hs.size _ g; simp only at this; omega, by rw [h1]; simp⟩) (fun _ b x hx hr hl => ?_) hobj
  have := hs.own b x hx hr hl
  simp only; omega

theorem fresh_pushed (hs : HSat w0 ρ hp w) (cells : Array Value) (ty : TypeId) (esz : Nat) (o : AObj)
    (hobj : ObjOk (upd ρ hp.length ⟨w.heap.size, 0, cells.size, esz⟩) (hp.length + 1) (pushed w cells ty) ⟨w.heap.size, 0, cells.size, esz⟩ false o) :
    HSat w0 (upd ρ hp.length ⟨w.heap.size, 0, cells.size, esz⟩) (hp ++ [⟨esz, false, none, o⟩]) (pushed w cells ty) :=
  fresh hs (fz := (0, 0)) ⟨esz, false, none, o⟩ rfl rfl (pushed w cells ty) rfl rfl rfl rfl hobj

theorem pushed_heap (w : World) (cells : Array Value) (ty : TypeId) : (pushed w cells ty).heap[w.heap.size]? = some (.cells cells ty (0, 0)) := pushed_at rfl

theorem obj_ints {ρ' : Nat → Loc} {n : Nat} {w' : World} {blk base tot : Nat} {k : IntKind} {xs : List Int} {cells : Array Value} {ty : TypeId} {fz : Nat × Nat} (h : w'.heap[blk]? = some (.cells cells ty fz))
    (ht : tot = cells.size) (hf : fz.1 = fz.2 ∨ cells.size ≤ fz.1) (hl : base + xs.length ≤ cells.size) (hc : ∀ j, j < xs.length → cells[base + j]? = some (.int k (xs.getD j 0))) :
    ObjOk ρ' n w' ⟨blk, base, tot, 1⟩ false (.ints k xs) := fun _ => ⟨rfl, cells, ty, fz, h, ht, fun _ => hf, hl, hc⟩

theorem obj_var {ρ' : Nat → Loc} {n : Nat} {w' : World} {blk esz tot : Nat} {vs : List AV} {cells : Array Value} {ty : TypeId} {fz : Nat × Nat} (h : w'.heap[blk]? = some (.cells cells ty fz))
    (ht : tot = cells.size) (hf : fz.1 = fz.2 ∨ cells.size ≤ fz.1) (hl : esz ≤ cells.size) (hz : asz vs = esz) (hc : CAt ρ' n (fun j => cells[j]?) vs 0) :
    ObjOk ρ' n w' ⟨blk, 0, tot, esz⟩ false (.var vs) := ⟨cells, ty, fz, h, ht, fun _ => hf, by simpa using hl, hz, by simpa using hc⟩

theorem VR_slice_new {n : Nat} {blk len c tot esz : Nat} {cap : Option Nat} (hl : len ≤ c) (hc : ∀ q, cap = some q → c = q) (ht : c * esz ≤ tot) :
    VR (upd ρ n ⟨blk, 0, tot, esz⟩) (n + 1) (.sl n 0 len cap) (.slice (some ⟨blk, 0, none⟩) len c) := by
  simp only [VR, upd_self]
  exact ⟨by omega, _, c, rfl, hl, hc, .inr ⟨by simp, by simpa using ht⟩⟩

include hT hs in
theorem evAlloc_sound {t : TypeId} {i : TI} {K : Kont} (ht : T t = some i) (h : newEntK ⟨i.sz, false, none, .var i.z⟩ hp fun b hp' => K (.ptr b 0 0 0) hp') :
    Res P w0 ρ hp w (Instr.alloc t true (.tuple #[])) K := by
  have hK := newEntK_sound _ h
  obtain ⟨zv, hz1, hz2, hz3, hz4⟩ := hT.zero ht w
  have hasz : asz i.z = i.sz := by rw [← hz3, ← hz2.2]; simp
  refine ⟨_, .pointer (some ⟨w.heap.size, 0, none⟩), _, upd ρ hp.length ⟨w.heap.size, 0, zv.cells.size, i.sz⟩, pushed w zv.cells t, hK, ?_, ?_, ?_, by simp, fun b hb => upd_lt hb⟩
  · simp only [Instr.alloc, Sem.run_bind, hz1, Result.andThen_ok]
    simp [newVar, newRow, pushed]
  · simp only [VR, List.length_append, List.length_singleton, upd_self]
    exact ⟨by omega, by simp⟩
  · exact fresh_pushed hs _ _ _ _ (obj_var (cells := zv.cells) (pushed_heap _ _ _) rfl (.inl rfl) (by show _ ≤ _; omega) hasz (by
      have := hz2.1 (upd ρ hp.length ⟨w.heap.size, 0, zv.cells.size, i.sz⟩) (hp.length + 1)
      simpa using this))

include hs in
theorem evBox_sound {t : TypeId} {i : TI} {v : AV} {cv : Value} {K : Kont} (hv : VR ρ hp.length v cv) (hz : asz v.segs = i.sz) (hc : (v.isCell || v.isAgg) = true)
    (h : newEntK ⟨i.sz, false, none, .var v.segs⟩ hp fun b hp' => K (.ptr b 0 0 0) hp') : Res P w0 ρ hp w (Instr.box t cv) K := by
  have hK := newEntK_sound _ h
  obtain ⟨c1, c2, c3⟩ := CAt_of_cells hv (cellOrAgg hc)
  have hsz : cv.cells.size = i.sz := by rw [← hz, ← c1]; simp
  refine ⟨_, .pointer (some ⟨w.heap.size, 0, none⟩), _, upd ρ hp.length ⟨w.heap.size, 0, cv.cells.size, i.sz⟩, pushed w cv.cells t, hK, ?_, ?_, ?_, by simp, fun b hb => upd_lt hb⟩
  · simp [Instr.box, newVar, newRow, pushed]
  · simp only [VR, List.length_append, List.length_singleton, upd_self]
    exact ⟨by omega, by simp⟩
  · refine fresh_pushed hs _ _ _ _ (obj_var (cells := cv.cells) (pushed_heap _ _ _) rfl (.inl rfl) (by show _ ≤ _; omega) hz ?_)
    have := CAt_mono (ρ' := upd ρ hp.length ⟨w.heap.size, 0, cv.cells.size, i.sz⟩) (Nat.le_succ hp.length) (fun b hb => upd_lt hb) _ _ _ c2
    simpa using this

/-- n times the cells of a zero value -/
theorem zeros_get {zero : Array Value} {m q : Nat} (hq : q < m) (hz : 0 < zero.size) : ((Array.range m).map (zero[· % zero.size]!))[q]? = zero[q % zero.size]? := by
  have : q % zero.size < zero.size := Nat.mod_lt _ hz
  simp [hq, this]

theorem zero_cells {zv : Value} {k : IntKind} {z0 : Int} (hz : ZOk [.int k z0] zv.cells.toList) : zv.cells = #[.int k z0] := by
  have h1 := hz.1 (fun _ => ⟨0, 0, 0, 0⟩) 0
  have h2 := hz.2
  simp only [CAt, VR] at h1
  obtain ⟨⟨c, g1, g2, g3⟩, _⟩ := h1
  simp only [asz, AV.sz] at h2
  subst g3
  apply Array.ext'
  apply List.ext_getElem?
  intro j
  cases j with
  | zero => simpa using g1
  | succ j => rw [List.getElem?_eq_none (by omega), List.getElem?_eq_none (by simp)]

/-- a list of whole numbers as a block -/
theorem ints_cells {k : IntKind} {xs : List Int} {j : Nat} (hj : j < xs.length) : (xs.map (Value.int k)).toArray[j]? = some (.int k (xs.getD j 0)) := by
  simp [List.getD, List.getElem?_eq_getElem hj]

theorem setElK_sound {x : List AV} : ∀ {l : List (List AV)} {i : Nat} {K : List (List AV) → Prop}, setElK x l i K → i < l.length ∧ K (l.set i x)
  | [], i, K, h => h.elim
  | y :: r, 0, K, h => ⟨by simp, h⟩
  | y :: r, i + 1, K, h => by
    obtain ⟨h1, h2⟩ := setElK_sound (l := r) (i := i) h
    exact ⟨by simpa using h1, h2⟩

/-- rows of cells, each of one size -/
def RowAt (ρ : Nat → Loc) (n sz : Nat) (cells : List Value) (els : List (List AV)) : Prop :=
  els.length * sz ≤ cells.length ∧ ∀ i x, els[i]? = some x → asz x = sz ∧ CAt ρ n (fun j => cells[i * sz + j]?) x 0

theorem rowIdx {i y l sz : Nat} (h : i < y) : i * sz + sz ≤ y * sz := by
  have : (i + 1) * sz ≤ y * sz := Nat.mul_le_mul_right _ h
  rwa [Nat.add_mul, Nat.one_mul] at this

theorem RowAt.set {n sz : Nat} {cells new : List Value} {els : List (List AV)} {i : Nat} {s : List AV} (h : RowAt ρ n sz cells els) (hi : i < els.length) (hs : asz s = sz) (hn : CAt ρ n (fun j => new[j]?) s 0) (hl : new.length = sz) :
    RowAt ρ n sz (splice cells (i * sz) new) (els.set i s) := by
  obtain ⟨h1, h2⟩ := h
  have hle : i * sz + new.length ≤ cells.length := by
    have := rowIdx (l := 0) (sz := sz) hi; omega
  refine ⟨by rw [splice_length hle]; simpa using h1, fun y z hz => ?_⟩
  by_cases e : y = i
  · subst e
    rw [List.getElem?_set_self hi] at hz
    cases hz
    refine ⟨hs, CAt_congr s 0 (fun j _ hj => ?_) hn⟩
    exact splice_in hle (by omega)
  · rw [List.getElem?_set_ne (fun g => e g.symm)] at hz
    obtain ⟨g1, g2⟩ := h2 y z hz
    refine ⟨g1, CAt_congr z 0 (fun j _ hj => ?_) g2⟩
    refine splice_out hle ?_
    rcases Nat.lt_or_ge y i with hy | hy
    · have := rowIdx (l := 0) (sz := sz) hy; omega
    · have := rowIdx (l := 0) (sz := sz) (show i < y by omega); omega

theorem partsRK_sound {n sz : Nat} : ∀ {parts : List (Nat × AV)} {ps : List (Nat × Value)} {acc : List (List AV)} {cells : Array Value} {K : List (List AV) → Prop}, VRp ρ n parts ps → RowAt ρ n sz cells.toList acc →
    partsRK sz parts acc K → ∃ els cells', K els ∧ els.length = acc.length ∧ Instr.fill (fun i => some (i * sz, sz)) cells ps = some cells' ∧ cells'.size = cells.size ∧ RowAt ρ n sz cells'.toList els
  | [], ps, acc, cells, K, hp, hr, h => by
    simp only [VRp] at hp; subst hp
    exact ⟨acc, cells, h, rfl, rfl, rfl, hr⟩
  | (i, v) :: r, ps, acc, cells, K, hp, hr, h => by
    simp only [VRp] at hp
    obtain ⟨c, cr, rfl, hv, hr'⟩ := hp
    simp only [partsRK] at h
    split at h
    case h_2 => exact h.elim
    rename_i h1 h2
    have h1' := Nat.eq_of_beq_eq_true h1
    obtain ⟨hi, h⟩ := setElK_sound h
    obtain ⟨c1, c2, c3⟩ := CAt_of_cells hv (cellOrAgg h2)
    have hcz : c.cells.size = sz := by rw [← h1', ← c1]; simp
    have hle : i * sz + c.cells.size ≤ cells.size := by
      have := rowIdx (l := 0) (sz := sz) hi
      have := hr.1
      simp only [Array.length_toList] at this
      omega
    have hfold := fill_one c (i * sz) cells hle
    obtain ⟨els, cells', k1, k2, k3, k4, k5⟩ := partsRK_sound (cells := c.cells.zipIdx.foldl (fun cs (c, j) => cs.setIfInBounds (i * sz + j) c) cells) hr'
      (by rw [hfold]; exact hr.set hi h1' c2 (by simpa using hcz)) h
    have hlen : (c.cells.zipIdx.foldl (fun cs (c, j) => cs.setIfInBounds (i * sz + j) c) cells).size = cells.size := by
      rw [← Array.length_toList, hfold, splice_length (by simpa using hle)]; simp
    refine ⟨els, cells', k1, by simpa using k2, ?_, by rw [k4, hlen], k5⟩
    rw [hcz] at hle
    simp only [Instr.fill]
    rw [if_neg (by simp [hcz]; omega)]
    exact k3

/-- as many zero rows as one wants -/
theorem zeros_row {n len : Nat} {zero : Array Value} {z : List AV} (hz : ∀ ρ n, CAt ρ n (fun i => zero.toList[i]?) z 0) (hl : zero.size = asz z) (h0 : 0 < zero.size) :
    RowAt ρ n zero.size (((Array.range (len * zero.size)).map (zero[· % zero.size]!)).toList) (List.replicate len z) := by
  refine ⟨by simp, fun i x hx => ?_⟩
  have hi : i < len := by
    rcases Nat.lt_or_ge i len with g | g
    · exact g
    · rw [List.getElem?_eq_none (by simpa using g)] at hx; cases hx
  rw [List.getElem?_replicate_of_lt hi] at hx
  cases hx
  refine ⟨hl.symm, CAt_congr z 0 (fun j _ hj => ?_) (hz ρ n)⟩
  have hb := rowIdx (l := 0) (sz := zero.size) hi
  rw [Array.getElem?_toList, zeros_get (by omega) h0]
  rw [show i * zero.size + j = j + zero.size * i by rw [Nat.mul_comm]; omega, Nat.add_mul_mod_self_left, Nat.mod_eq_of_lt (by omega), Array.getElem?_toList]

theorem RowAt.mono {ρ' : Nat → Loc} {n n' sz : Nat} {cells : List Value} {els : List (List AV)} (hn : n ≤ n') (h : ∀ b, b < n → ρ' b = ρ b) (hr : RowAt ρ n sz cells els) : RowAt ρ' n' sz cells els :=
  ⟨hr.1, fun i x hx => ⟨(hr.2 i x hx).1, CAt_mono hn h _ _ _ (hr.2 i x hx).2⟩⟩

theorem obj_row {ρ' : Nat → Loc} {n : Nat} {w' : World} {blk esz tot : Nat} {els : List (List AV)} {cells : Array Value} {ty : TypeId} {fz : Nat × Nat} (h : w'.heap[blk]? = some (.cells cells ty fz))
    (ht : tot = cells.size) (hf : fz.1 = fz.2 ∨ cells.size ≤ fz.1) (hr : RowAt ρ' n esz cells.toList els) : ObjOk ρ' n w' ⟨blk, 0, tot, esz⟩ false (.row els) := by
  refine fun _ => ⟨cells, ty, fz, h, ht, fun _ => hf, by simpa using hr.1, fun i x hx => ?_⟩
  obtain ⟨h1, h2⟩ := hr.2 i x hx
  exact ⟨h1, CAt_congr x 0 (fun j _ _ => by simp) h2⟩

include hT hs in
theorem evBuildSlice_sound {t : TypeId} {len : Nat} {parts : List (Nat × AV)} {ps : Array (Nat × Value)} {K : Kont} (hp' : VRp ρ hp.length parts ps.toList) (h : evBuildSlice T hp t len parts K) :
    Res P w0 ρ hp w (Instr.buildSlice t len ps) K := by
  unfold evBuildSlice at h
  split at h
  case h_2 => exact h.elim
  rename_i e ht
  split at h
  case h_2 => exact h.elim
  rename_i ei hei
  obtain ⟨zv, hz1, hz2, hz3, hz4⟩ := hT.zero hei w
  split at h
  · rename_i k hk
    split at h
    case h_2 => exact h.elim
    rename_i k' z0 h1 h2 h3
    split at h
    case h_2 => exact h.elim
    rename_i hkk
    have hkk' := of_decide_eq_true hkk
    subst hkk'
    have h1' := Nat.eq_of_beq_eq_true h1
    have h2' := Nat.le_of_ble_eq_true h2
    rw [h3] at hz2
    have hzc := zero_cells hz2
    obtain ⟨xs, k1, k2, k3⟩ := partsIK_sound hp' (repK_sound h)
    have hK := newEntK_sound _ k1
    have hcells : (Array.range (len * 1)).map ((if len = 0 then #[] else #[Value.int k z0])[· % (if len = 0 then #[] else #[Value.int k z0]).size]!) = ((List.replicate len z0).map (Value.int k)).toArray := by
      by_cases hl : len = 0
      · subst hl; simp
      · simp only [hl, if_false]
        apply Array.ext'
        apply List.ext_getElem?
        intro j
        rcases Nat.lt_or_ge j len with hj | hj
        · simp [hj, Nat.mod_one]
        · rw [List.getElem?_eq_none (by simpa using hj), List.getElem?_eq_none (by simpa using hj)]
    simp only [List.length_replicate] at k2
    refine ⟨_, .slice (some ⟨w.heap.size, 0, none⟩) len len, _, upd ρ hp.length ⟨w.heap.size, 0, (xs.map (Value.int k)).toArray.size, 1⟩, pushed w (xs.map (Value.int k)).toArray e, hK, ?_, ?_, ?_, by simp, fun b hb => upd_lt hb⟩
    · simp only [Instr.buildSlice, Sem.run_bind, run_underlying (hT.u_slice ht), Result.andThen_ok, hT.size hei w, h1', Nat.mul_one]
      rw [if_neg (by omega)]
      simp only [Nat.mul_one] at hcells k3
      by_cases hl : len = 0
      · subst hl
        have e1 : ∀ (f : Nat → Value), (Array.range 0).map f = #[] := by intro f; simp
        rw [show ((List.replicate 0 z0).map (Value.int k)).toArray = #[] from rfl] at k3
        simp only [if_true, Sem.run_bind, Sem.run_pure, Result.andThen_ok]
        rw [e1, k3]
        simp [newRow, pushed]
      · simp only [hl, if_false] at hcells ⊢
        simp only [Sem.run_bind, hz1, hzc, Sem.run_pure, Result.andThen_ok]
        rw [hcells, k3]
        simp [newRow, pushed]
    · simpa using VR_slice_new (ρ := ρ) (n := hp.length) (blk := w.heap.size) (len := len) (c := len) (tot := (xs.map (Value.int k)).toArray.size) (esz := 1) (cap := some len) (Nat.le_refl _) (fun q hq => by cases hq; rfl) (by simp [k2])
    · exact fresh_pushed hs _ _ _ _ (obj_ints (k := k) (xs := xs) (cells := (xs.map (Value.int k)).toArray) (pushed_heap _ _ _) rfl (.inl rfl) (by simp) (fun j hj => by rw [Nat.zero_add]; exact ints_cells hj))
  · rename_i hnk
    split at h
    case h_2 => exact h.elim
    rename_i h1 h2
    have h1' := Nat.le_of_ble_eq_true h1
    have h2' := Nat.le_of_ble_eq_true h2
    have hzs : zv.cells.size = asz ei.z := by rw [← hz2.2]; simp
    have hz0 : 0 < zv.cells.size := by omega
    have hrow := zeros_row (ρ := ρ) (n := hp.length) (len := len) (zero := zv.cells) (z := ei.z) hz2.1 hzs hz0
    rw [hz3] at hrow
    obtain ⟨els, cells', k1, k2, k3, k4, k5⟩ := partsRK_sound hp' hrow (repK_sound h)
    have hK := newEntK_sound _ k1
    simp only [List.length_replicate] at k2
    have hsz' : cells'.size = len * ei.sz := by rw [k4]; simp
    refine ⟨_, .slice (some ⟨w.heap.size, 0, none⟩) len len, _, upd ρ hp.length ⟨w.heap.size, 0, cells'.size, ei.sz⟩, pushed w cells' e, hK, ?_, ?_, ?_, by simp, fun b hb => upd_lt hb⟩
    · simp only [Instr.buildSlice, Sem.run_bind, run_underlying (hT.u_slice ht), Result.andThen_ok, hT.size hei w]
      rw [if_neg (by omega)]
      by_cases hl : len * ei.sz = 0
      · have hl0 : len = 0 := by
          rcases Nat.mul_eq_zero.1 hl with g | g
          · exact g
          · omega
        subst hl0
        have e0 : ∀ (q : Nat) (f : Nat → Value), (Array.range (0 * q)).map f = #[] := by intro q f; simp
        rw [e0] at k3
        simp only [Nat.zero_mul, if_true, Sem.run_bind, Sem.run_pure, Result.andThen_ok]
        have e1 : ∀ (f : Nat → Value), (Array.range 0).map f = #[] := by intro f; simp
        rw [e1, k3]
        simp [newRow, pushed]
      · simp only [hl, if_false, Sem.run_bind, hz1, Result.andThen_ok, Sem.run_pure]
        rw [hz3, k3]
        simp [newRow, pushed]
    · simpa using VR_slice_new (ρ := ρ) (n := hp.length) (blk := w.heap.size) (len := len) (c := len) (tot := cells'.size) (esz := ei.sz) (cap := some len) (Nat.le_refl _) (fun q hq => by cases hq; rfl) (by omega)
    · exact fresh_pushed hs _ _ _ _ (obj_row (pushed_heap _ _ _) rfl (.inl rfl) (k5.mono (by simp) (fun b hb => upd_lt hb)))

include hT hs in
theorem evMakeSlice_sound {t : TypeId} {l c : AV} {cl cc : Value} {K : Kont} (hl : VR ρ hp.length l cl) (hc : VR ρ hp.length c cc) (h : evMakeSlice T hp t l c K) :
    Res P w0 ρ hp w (Instr.makeSlice t cl cc) K := by
  unfold evMakeSlice at h
  split at h
  case h_2 => exact h.elim
  rename_i k1 l k2 c
  simp only [VR] at hl hc
  subst hl; subst hc
  split at h
  case h_2 => exact h.elim
  rename_i e ht
  split at h
  case h_2 => exact h.elim
  rename_i ei hei
  obtain ⟨zv, hz1, hz2, hz3, hz4⟩ := hT.zero hei w
  obtain ⟨info, hi1, hi2, hi3⟩ := hT.info hei w
  have wrap_id : ∀ n : Int, 0 ≤ n → n ≤ (roomMost : Int) → IntKind.i64.wrap n = n := by
    intro n h0 h1
    unfold roomMost at h1
    exact IntWalk.i64_in n (by omega)
  have main : ∀ (cells : Array Value) (bys : Nat), info.bytes = bys → bys ≤ 8192 → 0 ≤ l → l ≤ c → c ≤ (roomMost : Int) →
      (Array.range (c.toNat * ei.sz)).map ((if c.toNat * ei.sz = 0 then #[] else zv.cells)[· % (if c.toNat * ei.sz = 0 then #[] else zv.cells).size]!) = cells →
      (Instr.makeSlice t (.int k1 l) (.int k2 c)).run P w = .ok (.slice (some ⟨w.heap.size, 0, none⟩) l.toNat c.toNat) (pushed w cells e) := by
    intro cells bys hb hb8 h0 h1 h2 hcells
    have hr : (roomMost : Int) = 4294967296 := rfl
    have hmul : (bys : Int) * c ≤ 8192 * 4294967296 := by
      have : (bys : Int) * c ≤ 8192 * c := Int.mul_le_mul_of_nonneg_right (by omega) (by omega)
      omega
    have hmul2 : (bys : Int) * l ≤ 8192 * 4294967296 := by
      have : (bys : Int) * l ≤ 8192 * l := Int.mul_le_mul_of_nonneg_right (by omega) (by omega)
      omega
    have n1 : ¬ c < 0 := by omega
    have n2 : ¬ l < 0 := by omega
    have n3 : ¬ l > c := by omega
    have n4 : ¬ (bys : Int) * c > 2 ^ 48 := by omega
    simp only [Instr.makeSlice, Sem.run_bind, run_underlying (hT.u_slice ht), Result.andThen_ok, asInt, asIntOf, Sem.run_pure, hi1, hb, wrap_id c (by omega) h2, wrap_id l h0 (by omega)]
    rw [if_neg (by simp [n1, n2, n3, n4]; omega)]
    simp only [Sem.run_bind, run_askRoom, Result.andThen_ok, hT.size hei w]
    by_cases hc0 : c.toNat * ei.sz = 0
    · simp only [hc0, if_true] at hcells
      simp only [hc0, if_true, Sem.run_bind, Sem.run_pure, Result.andThen_ok]
      rw [hcells]
      simp [newRow, pushed]
    · simp only [hc0, if_false] at hcells
      simp only [hc0, if_false, Sem.run_bind, hz1, Sem.run_pure, Result.andThen_ok]
      rw [hcells]
      simp [newRow, pushed]
  split at h
  · rename_i k hk
    split at h
    case h_2 => exact h.elim
    rename_i k' z0 h1 h2 h3
    split at h
    case h_2 => exact h.elim
    rename_i hkk
    have hkk' := of_decide_eq_true hkk
    subst hkk'
    have h1' := Nat.eq_of_beq_eq_true h1
    have h2' := Nat.le_of_ble_eq_true h2
    rw [h3] at hz2
    have hzc := zero_cells hz2
    obtain ⟨q0, q1, q2, h⟩ := h
    have hK := newEntK_sound _ h
    have hcells : (Array.range (c.toNat * ei.sz)).map ((if c.toNat * ei.sz = 0 then #[] else zv.cells)[· % (if c.toNat * ei.sz = 0 then #[] else zv.cells).size]!) = ((List.replicate c.toNat z0).map (Value.int k)).toArray := by
      rw [h1', Nat.mul_one]
      by_cases hl : c.toNat = 0
      · rw [hl]; simp
      · simp only [hl, if_false, hzc]
        apply Array.ext'
        apply List.ext_getElem?
        intro j
        rcases Nat.lt_or_ge j c.toNat with hj | hj
        · simp [hj, Nat.mod_one]
        · rw [List.getElem?_eq_none (by simpa using hj), List.getElem?_eq_none (by simpa using hj)]
    have hrun := main _ ei.bys hi3 (by omega) q0 q1 q2 hcells
    refine ⟨_, .slice (some ⟨w.heap.size, 0, none⟩) l.toNat c.toNat, _, upd ρ hp.length ⟨w.heap.size, 0, ((List.replicate c.toNat z0).map (Value.int k)).toArray.size, 1⟩, pushed w ((List.replicate c.toNat z0).map (Value.int k)).toArray e, hK, hrun, ?_, ?_, by simp, fun b hb => upd_lt hb⟩
    · have := VR_slice_new (ρ := ρ) (n := hp.length) (blk := w.heap.size) (len := l.toNat) (c := c.toNat) (tot := ((List.replicate c.toNat z0).map (Value.int k)).toArray.size) (esz := 1) (cap := some c.toNat) (by omega) (fun q hq => by cases hq; rfl) (by simp)
      simpa using this
    · exact fresh_pushed hs _ _ _ _ (obj_ints (k := k) (xs := List.replicate c.toNat z0) (cells := ((List.replicate c.toNat z0).map (Value.int k)).toArray) (pushed_heap _ _ _) rfl (.inl rfl) (by simp) (fun j hj => by rw [Nat.zero_add]; exact ints_cells hj))
  · rename_i hnk
    split at h
    case h_2 => exact h.elim
    rename_i h1 h2
    have h1' := Nat.le_of_ble_eq_true h1
    have h2' := Nat.le_of_ble_eq_true h2
    obtain ⟨q0, q1, q2, h⟩ := h
    have hK := newEntK_sound _ h
    have hzs : zv.cells.size = asz ei.z := by rw [← hz2.2]; simp
    have hz0 : 0 < zv.cells.size := by omega
    have hrow := zeros_row (ρ := upd ρ hp.length ⟨w.heap.size, 0, c.toNat * ei.sz, ei.sz⟩) (n := hp.length + 1) (len := c.toNat) (zero := zv.cells) (z := ei.z) hz2.1 hzs hz0
    rw [hz3] at hrow
    have hrun := main _ ei.bys hi3 (by omega) q0 q1 q2 rfl
    have hcells : (Array.range (c.toNat * ei.sz)).map ((if c.toNat * ei.sz = 0 then #[] else zv.cells)[· % (if c.toNat * ei.sz = 0 then #[] else zv.cells).size]!) = (Array.range (c.toNat * ei.sz)).map (zv.cells[· % ei.sz]!) := by
      by_cases hl : c.toNat * ei.sz = 0
      · rw [hl]; simp
      · simp only [hl, if_false, hz3]
    rw [hcells] at hrun
    have hsz : ((Array.range (c.toNat * ei.sz)).map (zv.cells[· % ei.sz]!)).size = c.toNat * ei.sz := by simp
    refine ⟨_, .slice (some ⟨w.heap.size, 0, none⟩) l.toNat c.toNat, _, upd ρ hp.length ⟨w.heap.size, 0, ((Array.range (c.toNat * ei.sz)).map (zv.cells[· % ei.sz]!)).size, ei.sz⟩, pushed w _ e, hK, hrun, ?_, ?_, by simp, fun b hb => upd_lt hb⟩
    · have := VR_slice_new (ρ := ρ) (n := hp.length) (blk := w.heap.size) (len := l.toNat) (c := c.toNat) (tot := ((Array.range (c.toNat * ei.sz)).map (zv.cells[· % ei.sz]!)).size) (esz := ei.sz) (cap := some c.toNat) (by omega) (fun q hq => by cases hq; rfl) (by rw [hsz]; exact Nat.le_refl _)
      simpa using this
    · exact fresh_pushed hs _ _ _ _ (obj_row (pushed_heap _ _ _) rfl (.inl rfl) (by rw [hsz]; exact hrow))
end
end Go.Aw
