/-
  AwI: conversions, slice expressions, append, copy. Own work of this session.
-/
import Derived.Test.YtdababcblhbpeaaAwH
import Derived.Laws.BytesString
import Derived.Laws.IdiomStrings
import Derived.Lib.Strings
set_option linter.unusedVariables false
set_option linter.unusedSimpArgs false
namespace Go.Aw
section
variable {P : Program} {T : Tab} (hT : TOk P T) {w0 : Base} {w : World} {ρ : Nat → Loc} {hp : Hp} (hs : HSat w0 ρ hp w)

/-- a block's mark that it shares with a string, behind its end -/
theorem HSat.refreeze {w' : World} (hs : HSat w0 ρ hp w) {b : Nat} {e : Ent} (hb : hp[b]? = some e) (hr : e.ro = false) (hl : e.o.lv (ρ b) = true) {cells : Array Value} {ty : TypeId} {fz fz' : Nat × Nat}
    (h0 : w.heap[(ρ b).blk]? = some (.cells cells ty fz)) (h0' : w'.heap[(ρ b).blk]? = some (.cells cells ty fz')) (hf : fz'.1 = fz'.2 ∨ cells.size ≤ fz'.1)
    (h1 : ∀ i, i ≠ (ρ b).blk → w'.heap[i]? = w.heap[i]?) (hsz : w'.heap.size = w.heap.size) (h2 : w'.tape = w.tape) (h3 : w'.os = w.os) (h4 : w'.output = w.output) : HSat w0 ρ hp w' where
  size := by rw [hsz]; exact hs.size
  old i hi := by
    have := (hs.own b e hb hr hl).1
    rw [h1 i (fun g => this (g ▸ hi))]; exact hs.old i hi
  tape := by rw [h2]; exact hs.tape
  os := by rw [h3]; exact hs.os
  out := by rw [h4]; exact hs.out
  esz := hs.esz
  obj i x hx := by
    have ho := hs.obj i x hx
    by_cases hi : (ρ i).blk = (ρ b).blk
    · cases hxo : x.o with
      | gone => trivial
      | ints k xs =>
        rw [hxo] at ho
        intro hlv
        obtain ⟨q1, c, t, f, q2, q3, q4, q5⟩ := ho hlv
        rw [hi, h0] at q2; cases q2
        exact ⟨q1, cells, ty, fz', by rw [hi]; exact h0', q3, fun _ => hf, q5⟩
      | var vs =>
        rw [hxo] at ho
        obtain ⟨c, t, f, q2, q3, q4, q5⟩ := ho
        rw [hi, h0] at q2; cases q2
        exact ⟨cells, ty, fz', by rw [hi]; exact h0', q3, fun _ => hf, q5⟩
      | row els =>
        rw [hxo] at ho
        intro hlv
        obtain ⟨c, t, f, q2, q3, q4, q5⟩ := ho hlv
        rw [hi, h0] at q2; cases q2
        exact ⟨cells, ty, fz', by rw [hi]; exact h0', q3, fun _ => hf, q5⟩
    · exact ObjOk_mono (Nat.le_refl _) (fun _ _ => rfl) (h1 _ hi) ho
  own := by rw [hsz]; exact hs.own
  views := hs.views
  given := hs.given
  apart := hs.apart

theorem strOf_foldl (xs : List Int) : ∀ (r : ByteArray), xs.foldl (fun r n => r.push (UInt8.ofNat n.toNat)) r = ⟨r.data ++ (strOfBytes xs).toArray⟩ := by
  induction xs with
  | nil => intro r; simp [strOfBytes]
  | cons x xs ih =>
    intro r
    rw [List.foldl_cons, ih]
    apply ByteArray.ext
    simp [strOfBytes, ByteArray.push]

include hT hs in
theorem evConv_sound {s d : TypeId} {x : AV} {cx : Value} {K : Kont} (hx : VR ρ hp.length x cx) (h : evConv T hp s d x K) : Res P w0 ρ hp w (convert s d cx) K := by
  unfold evConv at h
  split at h
  · rename_i k n
    simp only [VR] at hx; subst hx
    split at h
    · rename_i k1 k2 h1 h2
      refine Res.same hs h (cv := .int k2 (k2.wrap n)) ?_ (by simp only [VR])
      simp [convert, run_underlying (hT.u_int h1), run_underlying (hT.u_int h2), Conv.intToInt]
    · exact h.elim
  · rename_i l
    simp only [VR] at hx; subst hx
    split at h
    · rename_i h1 h2
      refine Res.same hs h (cv := .string ⟨l.toArray⟩) ?_ (by simp only [VR])
      simp [convert, run_underlying (hT.u_str h1), run_underlying (hT.u_str h2)]
    · rename_i e h1 h2
      split at h
      case h_2 => exact h.elim
      rename_i h3
      obtain ⟨hroom, h⟩ := h
      have hK := newEntK_sound _ h
      have hrun := run_bytes_of_string (P := P) w s d e ⟨l.toArray⟩ (hT.u_str h1) (hT.u_slice h2) (hT.u_int h3)
      have hcap : l.length ≤ grownCap w (⟨l.toArray⟩ : ByteArray).size 0 e := by
        simp [grownCap, Question.cut, ByteArray.size]
      generalize grownCap w (⟨l.toArray⟩ : ByteArray).size 0 e = c at hrun hcap
      have hbs : (bytesRow ⟨l.toArray⟩ c).size = c := by simp [bytesRow, ByteArray.size]; omega
      have hlen : (⟨l.toArray⟩ : ByteArray).size = l.length := by simp [ByteArray.size]
      rw [hlen] at hrun
      refine ⟨_, _, _, upd ρ hp.length ⟨w.heap.size, 0, (bytesRow ⟨l.toArray⟩ c).size, 1⟩, _, hK, hrun, ?_, ?_, by simp, fun b hb => upd_lt hb⟩
      · have := VR_slice_new (ρ := ρ) (n := hp.length) (blk := w.heap.size) (len := l.length) (c := c) (tot := (bytesRow ⟨l.toArray⟩ c).size) (esz := 1) (cap := none) hcap (fun q hq => by cases hq) (by omega)
        simpa using this
      · refine fresh hs (cells := bytesRow ⟨l.toArray⟩ c) (ty := e) (fz := ((bytesRow ⟨l.toArray⟩ c).size, (bytesRow ⟨l.toArray⟩ c).size + 1)) ⟨1, false, none, .ints .u8 (bytesOfStr l)⟩ rfl rfl _ rfl rfl rfl rfl ?_
        refine obj_ints (k := .u8) (xs := bytesOfStr l) (cells := bytesRow ⟨l.toArray⟩ c) (pushed_at rfl) rfl (.inr (Nat.le_refl _)) (by simp [bytesOfStr]; omega) (fun j hj => ?_)
        simp only [bytesOfStr, List.length_map] at hj
        rw [Nat.zero_add]
        unfold bytesRow
        rw [Array.getElem?_append_left (by simpa using hj)]
        simp [bytesOfStr, List.getD, List.getElem?_eq_getElem hj]
    · exact h.elim
  · rename_i hni hns
    split at h
    · rename_i e h1 h2
      split at h
      case h_2 => exact h.elim
      rename_i h3
      obtain ⟨xs, hK, hc⟩ := intsOf_sound hs hx h
      rcases hc with ⟨rfl, rfl⟩ | ⟨l, rfl, _, rfl⟩ | ⟨ad, c, rfl, hcells⟩
      · refine Res.same hs hK (cv := .string ⟨[].toArray⟩) ?_ (by simp only [VR, strOfBytes, List.map_nil])
        simp [convert, run_underlying (hT.u_slice h1), run_underlying (hT.u_str h2), run_underlying (hT.u_int h3), Conv.bytesToString]
        try rfl
      · cases x <;> simp only [intsOf] at h <;> first | exact h.elim | skip
        · exact absurd rfl (hns _)
        · rename_i v
          simp only [VR] at hx
          rw [← hx.1] at h
          exact h.elim
        · simp only [VR] at hx
          obtain ⟨_, ad, c, hx, _⟩ := hx
          cases hx
      · have hr := run_loadCells_list (P := P) w ad (xs.map (Value.int .u8)) hcells
        rw [List.length_map] at hr
        refine Res.same hs hK (cv := .string ⟨(strOfBytes xs).toArray⟩) ?_ (by simp only [VR])
        have hb := run_bytesToString w ad xs.length c xs hr
        rw [strOf_foldl] at hb
        simp [convert, run_underlying (hT.u_slice h1), run_underlying (hT.u_str h2), run_underlying (hT.u_int h3), hb]
        try rfl
    · rename_i e0 e h1 h2
      split at h
      case h_2 => exact h.elim
      rename_i b off len cap h3 h4
      obtain ⟨en, hen, h⟩ := entK_sound h
      split at h
      case h_2 => exact h.elim
      rename_i k xs hro hob
      obtain ⟨hlen, hxl, hK⟩ := h
      have hsd := Nat.eq_of_beq_eq_true h4
      have ho := hs.obj b en hen
      rw [hob, hro] at ho
      obtain ⟨q1, cells, ty, fz, q2, q3, q4, q5, q6⟩ := ho (lv_ints (i := 0) (by omega))
      have hx' := hx
      simp only [VR] at hx'
      obtain ⟨hb, ad, c, rfl, hlc, hcap, had⟩ := hx'
      rcases had with rfl | ⟨rfl, htot⟩
      · omega
      have hsh : w.shape? (ρ b).blk = some (ty, cells.size) := by simp [World.shape?, q2]
      refine ⟨_, _, hp, ρ, w.freeze ⟨(ρ b).blk, cells.size, none⟩ 1, hK, ?_, hx, ?_, Nat.le_refl _, fun _ _ => rfl⟩
      · subst hsd
        have he0 : e0 = e := by rw [h1] at h2; cases h2; rfl
        subst he0
        simp [convert, run_underlying (hT.u_slice h1), run_underlying (hT.u_int h3), markStringish, hsh]
      · have hfz : (w.freeze ⟨(ρ b).blk, cells.size, none⟩ 1).heap = w.heap.modify (ρ b).blk (fun
            | .cells c elem (lo, hi) => .cells c elem (if lo == hi then (cells.size, cells.size + 1) else (min lo cells.size, max hi (cells.size + 1)))
            | o => o) := by simp [World.freeze]; rfl
        obtain ⟨lo, hi⟩ := fz
        refine hs.refreeze hen hro (by rw [hob]; exact lv_ints (i := 0) (by omega)) q2 (fz' := if lo == hi then (cells.size, cells.size + 1) else (min lo cells.size, max hi (cells.size + 1))) ?_ ?_ ?_ ?_ ?_ ?_ ?_
        · rw [hfz, Array.getElem?_modify, q2]; simp
        · have := q4 rfl
          simp only at this
          by_cases e : lo = hi
          · simp [e]
          · simp only [beq_iff_eq, e, if_false]
            right
            rcases this with h | h
            · exact absurd h e
            · omega
        · intro i hi
          rw [hfz, Array.getElem?_modify, if_neg (fun e => hi e.symm)]
        · rw [hfz]; simp
        · simp [World.freeze]
        · simp [World.freeze]
        · simp [World.freeze]
    · exact h.elim

/-- an operand that may be left out -/
def OVR (ρ : Nat → Loc) (n : Nat) : Option AV → Option Value → Prop
  | none, none => True
  | some v, some c => VR ρ n v c
  | _, _ => False
/-- a bound, or what stands for it where it is left out -/
def BndIs (c : Option Value) (dflt m : Nat) : Prop :=
  match c with
  | none => m = dflt
  | some c => ∃ k, c = .int k (m : Int)

/-- the bounds of a slice expression -/
theorem bnd_sound {x : Option AV} {c : Option Value} {dflt : Nat} {n : Nat} {K : Nat → Prop} (hx : OVR ρ n x c) (h : bndK x dflt K) : ∃ m, K m ∧ BndIs c dflt m := by
  unfold bndK at h
  cases x with
  | none =>
    cases c with
    | none => exact ⟨dflt, h, rfl⟩
    | some c => exact hx.elim
  | some v =>
    cases c with
    | none => exact hx.elim
    | some c =>
      simp only at h
      split at h
      · rename_i k m
        simp only [OVR, VR] at hx
        obtain ⟨h0, h1⟩ := h
        refine ⟨m.toNat, h1, k, ?_⟩
        rw [hx]; congr 1; omega
      · exact h.elim

theorem run_sliceBounds {isS : Bool} {len cap a h : Nat} {lo hi : Option Value} (hlo : BndIs lo 0 a) (hhi : BndIs hi len h)
    (h1 : a ≤ h) (h2 : h ≤ cap) : (Instr.sliceBounds isS len cap lo hi none).run P w = .ok (a, h, cap) w := by
  have ha : (a : Int) ≤ h := by omega
  have hc : (h : Int) ≤ cap := by omega
  cases lo with
  | none =>
    simp only [BndIs] at hlo; subst hlo
    cases hi with
    | none => simp only [BndIs] at hhi; subst hhi; simp [Instr.sliceBounds]
    | some c =>
      obtain ⟨k, rfl⟩ := hhi
      simp [Instr.sliceBounds, Instr.sliceBound, asIntOf, h2]
  | some c =>
    obtain ⟨k, rfl⟩ := hlo
    cases hi with
    | none => simp only [BndIs] at hhi; subst hhi; simp [Instr.sliceBounds, Instr.sliceBound, asIntOf, h1]
    | some c =>
      obtain ⟨k, rfl⟩ := hhi
      simp [Instr.sliceBounds, Instr.sliceBound, asIntOf, h1, h2]

include hT hs in
theorem evSlice_sound {t : TypeId} {x : AV} {cx : Value} {lo hi : Option AV} {clo chi : Option Value} {K : Kont} (hx : VR ρ hp.length x cx)
    (hlo : OVR ρ hp.length lo clo) (hhi : OVR ρ hp.length hi chi) (h : evSlice T hp t x lo hi K) : Res P w0 ρ hp w (Instr.sliceAt t cx clo chi none) K := by
  unfold evSlice at h
  split at h
  · rename_i l
    split at h
    case h_2 => exact h.elim
    rename_i ht
    obtain ⟨q, h, hq⟩ := bnd_sound hhi h
    obtain ⟨a, h, ha⟩ := bnd_sound hlo h
    obtain ⟨h1, h2, hK⟩ := h
    simp only [VR] at hx; subst hx
    have hb := run_sliceBounds (P := P) (w := w) (isS := false) ha hq h1 h2
    refine Res.same hs hK (cv := .string ⟨((l.take q).drop a).toArray⟩) ?_ (by simp only [VR])
    have hsz : (⟨l.toArray⟩ : ByteArray).size = l.length := by simp [ByteArray.size]
    simp only [Instr.sliceAt, Sem.run_bind, run_underlying (hT.u_str ht), Result.andThen_ok, Instr.slice, hsz]
    simp only [Option.isSome_none, Bool.false_eq_true, if_false, Sem.run_bind, Sem.run_pure, Result.andThen_ok, hb]
    congr 2
    apply ByteArray.ext
    apply Array.ext'
    have := Lib.extract_data ⟨l.toArray⟩ a q
    rw [this]
    simp [List.drop_take]
  · rename_i b off len cap
    split at h
    case h_2 => exact h.elim
    rename_i e ht
    split at h
    case h_2 => exact h.elim
    rename_i ei hei
    obtain ⟨en, hen, h⟩ := entK_sound h
    split at h
    case h_2 => exact h.elim
    rename_i hz
    have hz' := Nat.eq_of_beq_eq_true hz
    have hez := hs.esz b en hen
    obtain ⟨q, h, hq⟩ := bnd_sound hhi h
    obtain ⟨a, h, ha⟩ := bnd_sound hlo h
    obtain ⟨h1, h⟩ := h
    simp only [VR] at hx
    obtain ⟨hb, ad, c, rfl, hlc, hcap, had⟩ := hx
    have hqc : q ≤ c := by
      cases cap with
      | none => simp only at h; omega
      | some c' => simp only at h; have := hcap c' rfl; omega
    have hbd := run_sliceBounds (P := P) (w := w) (isS := true) ha hq h1 hqc
    have hrun : (Instr.sliceAt t (.slice ad len c) clo chi none).run P w = .ok (.slice (if c = a then ad else ad.map (·.add (a * (ρ b).esz))) (q - a) (c - a)) w := by
      simp only [Instr.sliceAt, Sem.run_bind, run_underlying (hT.u_slice ht), Result.andThen_ok, Instr.slice, hbd, hT.size hei w, Sem.run_pure, hz', ← hez]
    have hv : ∀ cap', (∀ q, cap' = some q → c - a = q) → VR ρ hp.length (.sl b (off + a) (q - a) cap') (.slice (if c = a then ad else ad.map (·.add (a * (ρ b).esz))) (q - a) (c - a)) := by
      intro cap' hc'
      simp only [VR]
      refine ⟨hb, _, _, rfl, by omega, hc', ?_⟩
      by_cases e : c = a
      · left; omega
      · right
        rcases had with rfl | ⟨rfl, ht⟩
        · omega
        · simp only [e, if_false, Option.map_some, addr_add]
          refine ⟨?_, ?_⟩
          · congr 2
            rw [Nat.add_mul]; omega
          · rw [show off + a + (c - a) = off + c by omega]; exact ht
    cases cap with
    | none => exact Res.same hs h.2 hrun (hv none (fun q hq => by cases hq))
    | some c' => exact Res.same hs h.2 hrun (hv _ (fun q hq => by cases hq; have := hcap c' rfl; omega))
  · split at h
    case h_2 => exact h.elim
    rename_i e ht
    split at h
    case h_2 => exact h.elim
    rename_i ei hei
    obtain ⟨q, h, hq⟩ := bnd_sound hhi h
    obtain ⟨a, h, ha⟩ := bnd_sound hlo h
    obtain ⟨h1, h2, hK⟩ := h
    subst h1; subst h2
    have hx' := hx
    simp only [VR] at hx'
    obtain ⟨rfl, _⟩ := hx'
    have hbd := run_sliceBounds (P := P) (w := w) (isS := true) (cap := 0) ha hq (Nat.le_refl _) (Nat.le_refl _)
    refine Res.same hs hK (cv := .slice none 0 0) ?_ hx
    simp only [Instr.sliceAt, Sem.run_bind, run_underlying (hT.u_slice ht), Result.andThen_ok, Instr.slice, hbd, hT.size hei w, Sem.run_pure]
    rfl
  · rename_i b i off j
    split at h
    case h_2 => exact h.elim
    rename_i n e ht
    split at h
    case h_2 => exact h.elim
    rename_i ei hei
    obtain ⟨en, hen, hE⟩ := entK_sound h
    clear h
    split at hE
    case h_2 => exact hE.elim
    rename_i vs hro hob hi hj hz
    have hi' := Nat.eq_of_beq_eq_true hi
    have hj' := Nat.eq_of_beq_eq_true hj
    have hz' := Nat.eq_of_beq_eq_true hz
    subst hi'; subst hj'
    obtain ⟨q, h, hq⟩ := bnd_sound hhi hE
    obtain ⟨a, h, ha⟩ := bnd_sound hlo h
    obtain ⟨h1, h2, h⟩ := h
    obtain ⟨va, r, g1, g2, h⟩ := dropK_sound h
    split at h
    case h_2 => exact h.elim
    rename_i k n' xs vr
    split at h
    case h_2 => exact h.elim
    rename_i hn
    have hn' := Nat.eq_of_beq_eq_true hn
    subst hn'
    have hK := newEntK_sound _ h
    simp only [VR] at hx
    obtain ⟨hb, rfl⟩ := hx
    have hbd := run_sliceBounds (P := P) (w := w) (isS := false) ha hq h1 h2
    have ho := hs.obj b en hen
    rw [hob] at ho
    obtain ⟨cells, ty, fz, q2, q3, q4, q5, q6, q7⟩ := ho
    subst g1
    rw [CAt_append] at q7
    simp only [CAt, Nat.zero_add, asz_append, asz, AV.sz, g2] at q6 q7
    obtain ⟨_, ⟨q8, q9⟩, _⟩ := q7
    have hrun : (Instr.sliceAt t (.pointer (some ⟨(ρ b).blk, (ρ b).base + 0 * (ρ b).esz + off + 0, none⟩)) clo chi none).run P w =
        .ok (.slice (some ⟨(ρ b).blk, (ρ b).base + off + (if n = a then 0 else a), none⟩) (q - a) (n - a)) w := by
      simp only [Instr.sliceAt, Sem.run_bind, run_underlying (hT.u_array ht), Result.andThen_ok, Instr.sureAddr, Sem.run_pure, hbd, hT.size hei w, hz', Nat.mul_one, addr_add]
      congr 3
      split <;> simp
    refine ⟨_, _, _, upd ρ hp.length ⟨(ρ b).blk, (ρ b).base + off, (ρ b).tot, 1⟩, w, hK, hrun, ?_, ?_, by simp, fun b hb => upd_lt hb⟩
    · simp only [VR, List.length_append, List.length_singleton, upd_self, Nat.mul_one]
      refine ⟨by omega, _, n - a, rfl, by omega, fun q hq => by cases hq; rfl, ?_⟩
      by_cases e : n = a
      · left; omega
      · right
        simp only [e, if_false]
        exact ⟨trivial, by omega⟩
    · refine hs.view hen hro (by rw [hob]; rfl) _ _ rfl rfl rfl rfl ?_
      refine fun _ => ⟨rfl, cells, ty, fz, q2, q3, (fun h => by cases h), (by show (ρ b).base + off + xs.length ≤ _; omega), fun j hj => ?_⟩
      show cells[(ρ b).base + off + j]? = _
      rw [Nat.add_assoc]; exact q9 j (by omega)
  · exact h.elim

/-! ### append -/
/-- what is appended: so many elements, their cells as they lie now -/
def Src (P : Program) (w : World) (size : Nat) (cx : Value) (n : Nat) (news : List Value) : Prop :=
  (∀ w', (Builtin.lenOf cx).run P w' = .ok n w') ∧ news.length = n * size ∧ (∀ u ∈ news, u.oneCell' = true) ∧
  ∀ w', w'.heap = w.heap → (Builtin.firstCells size n cx).run P w' = .ok news.toArray w'

theorem cell_heap {w w' : World} (h : w'.heap = w.heap) (a : Addr) : w'.cell? a = w.cell? a := by simp [World.cell?, h]

theorem src_nil {size : Nat} : Src P w size (.slice none 0 0) 0 [] := by
  refine ⟨fun w' => rfl, by simp, by simp, fun w' _ => rfl⟩

theorem src_slice {size n c : Nat} {ad : Addr} {news : List Value} (hl : news.length = n * size) (h1 : ∀ u ∈ news, u.oneCell' = true) (h : ∀ j v, news[j]? = some v → w.cell? (ad.add j) = some v) :
    Src P w size (.slice (some ad) n c) n news := by
  refine ⟨fun w' => rfl, hl, h1, fun w' hw => ?_⟩
  have := run_loadCells_list (P := P) w' ad news (fun j v hv => by rw [cell_heap hw]; exact h j v hv)
  rw [hl] at this
  exact this

theorem src_str {l : List UInt8} : Src P w 1 (.string ⟨l.toArray⟩) l.length ((bytesOfStr l).map (Value.int .u8)) := by
  refine ⟨fun w' => by simp [Builtin.lenOf, ByteArray.size], by simp [bytesOfStr], fun u hu => ?_, fun w' _ => ?_⟩
  · simp at hu; obtain ⟨x, _, rfl⟩ := hu; rfl
  · simp only [Builtin.firstCells, Sem.run_pure]
    congr 1
    apply Array.ext'
    have h := Lib.extract_data ⟨l.toArray⟩ 0 l.length
    simp only [Array.toList_map]
    rw [h]
    simp [bytesOfStr, List.take_of_length_le]

theorem src_of_ints {k : IntKind} {cx : Value} {xs : List Int} (h : ((cx = .slice none 0 0 ∧ xs = []) ∨ (∃ l : List UInt8, cx = .string ⟨l.toArray⟩ ∧ k = .u8 ∧ xs = bytesOfStr l) ∨
      (∃ ad c, cx = .slice (some ad) xs.length c ∧ ∀ j v, (xs.map (Value.int k))[j]? = some v → w.cell? (ad.add j) = some v))) : Src P w 1 cx xs.length (xs.map (Value.int k)) := by
  rcases h with ⟨rfl, rfl⟩ | ⟨l, rfl, rfl, rfl⟩ | ⟨ad, c, rfl, hc⟩
  · exact src_nil
  · have := src_str (P := P) (w := w) (l := l)
    simpa [bytesOfStr] using this
  · refine src_slice (by simp) (fun u hu => ?_) hc
    simp at hu; obtain ⟨x, _, rfl⟩ := hu; rfl

theorem growBy_le (newLen : Nat) : ∀ (r c : Nat), c ≤ 2 * newLen + 1024 → Builtin.growBy newLen r c ≤ 2 * newLen + 1024
  | 0, c, h => h
  | r + 1, c, h => by
    unfold Builtin.growBy
    split
    · exact h
    · exact growBy_le newLen r _ (by omega)

theorem next_le (need c : Nat) (h : c < need) : Builtin.nextslicecap need c ≤ 2 * need + 1024 := by
  unfold Builtin.nextslicecap
  split
  · omega
  · split
    · omega
    · exact growBy_le need 4 c (by omega)

/-- the cells of an append's new array, or of the old one behind it -/
theorem run_append {t t2 ty e : TypeId} {ei : TI} {base : Option Addr} {len c n : Nat} {cx : Value} {news olds : List Value} (hT : TOk P T) (ht : td T t = .slice e) (hei : T e = some ei)
    (ht2 : (match td T t2 with | .slice _ => true | .str => true | _ => false) = true) (hb8 : ei.bys ≤ 8192) (hsz : 0 < ei.sz) (hsrc : Src P w ei.sz cx n news)
    (hroom : len + n ≤ roomMost) (hold : ∀ w', w'.heap = w.heap → (Builtin.firstCells ei.sz len (.slice base len c)).run P w' = .ok olds.toArray w') (hol : olds.length = len * ei.sz) (hlc : len ≤ c)
    (hstore : len + n ≤ c → ∃ w', (match base with | some a => storeCells (a.add (len * ei.sz)) news | none => pure ()).run P w = .ok () w') :
    (∃ w', len + n ≤ c ∧ (match base with | some a => storeCells (a.add (len * ei.sz)) news | none => pure ()).run P w = .ok () w' ∧
        (Builtin.append_ #[t, t2] ty #[.slice base len c, cx]).run P w = .ok (.slice base (len + n) c) w') ∨
    (∃ c' cells, c < len + n ∧ len + n ≤ c' ∧ cells.size = c' * ei.sz ∧ (∀ j, j < (olds ++ news).length → cells[j]? = (olds ++ news)[j]?) ∧
        (Builtin.append_ #[t, t2] ty #[.slice base len c, cx]).run P w = .ok (.slice (some ⟨w.heap.size, 0, none⟩) (len + n) c') (pushed { w with drawn := w.drawn + 1 } cells e)) := by
  obtain ⟨s1, s2, s3, s4⟩ := hsrc
  have hz2 : (∃ e2, P.underlying t2 = some (.slice e2)) ∨ P.underlying t2 = some .string := by
    cases h : td T t2 with
    | slice e2 => exact .inl ⟨_, hT.u_slice h⟩
    | str => exact .inr (hT.u_str h)
    | _ => rw [h] at ht2; cases ht2
  obtain ⟨info, hi1, hi2, hi3⟩ := hT.info hei w
  obtain ⟨zv, hz, hzo, hzs, _⟩ := hT.zero hei ({ w with drawn := w.drawn + 1 } : World)
  by_cases hfit : len + n ≤ c
  · obtain ⟨w', hw'⟩ := hstore hfit
    refine .inl ⟨w', hfit, hw', ?_⟩
    rcases hz2 with ⟨e2, hd2⟩ | hd2
    all_goals
      simp only [Builtin.append_, List.getElem?_toArray, List.getElem?_cons_zero, List.getElem?_cons_succ, Sem.run_bind, run_underlying (hT.u_slice ht), Result.andThen_ok, hT.size hei w,
        run_underlying hd2, Sem.run_pure, s1, Bool.false_eq_true, if_false, Bool.not_false, if_true, hfit, s4 w rfl]
      cases base with
      | none => simp at hw' ⊢; exact hw'
      | some a => simp only at hw' ⊢; simp only [Sem.run_bind, hw', Result.andThen_ok, Sem.run_pure]
  · refine .inr ?_
    have hneed : c < len + n := by omega
    have hr : roomMost = 4294967296 := rfl
    have hnext := next_le (len + n) c hneed
    have hmul : Builtin.nextslicecap (len + n) c * info.bytes ≤ 2 ^ 48 := by
      have h1 : Builtin.nextslicecap (len + n) c * info.bytes ≤ (2 * 4294967296 + 1024) * 8192 := Nat.mul_le_mul (by omega) (by omega)
      omega
    have hq : (Question.appendCap (len + n) c e).forced = false := rfl
    have hcut : len + n ≤ (Question.appendCap (len + n) c e).cut (w.tape w.drawn (.appendCap (len + n) c e)) := by simp [Question.cut]
    refine ⟨(Question.appendCap (len + n) c e).cut (w.tape w.drawn (.appendCap (len + n) c e)),
      olds.toArray ++ news.toArray ++ Builtin.zeroCells zv.cells ((Question.appendCap (len + n) c e).cut (w.tape w.drawn (.appendCap (len + n) c e)) - (len + n)), hneed, hcut, ?_, fun j hj => ?_, ?_⟩
    · simp [Builtin.zeroCells, hzs, hol, s2]
      rw [← Nat.add_mul, ← Nat.add_mul]
      congr 1; omega
    · rw [Array.getElem?_append_left (by simpa using hj)]
      simp
    · have hov : ¬ (((len + n : Nat) : Int) > IntKind.i64.max ∧ (false = true ∨ info.bytes = 0)) := by
        intro h; have := h.1; simp at this; omega
      have hbig : ¬ (Builtin.nextslicecap (len + n) c * info.bytes > 2 ^ 48) := by omega
      rcases hz2 with ⟨e2, hd2⟩ | hd2
      all_goals
        simp only [Builtin.append_, List.getElem?_toArray, List.getElem?_cons_zero, List.getElem?_cons_succ, Sem.run_bind, run_underlying (hT.u_slice ht), Result.andThen_ok, hT.size hei w,
          run_underlying hd2, Sem.run_pure, s1, Bool.false_eq_true, if_false, hfit, hi1]
        rw [if_neg (by simpa using hov)]
        simp only [Sem.run_bind, hi1, Result.andThen_ok]
        rw [if_neg hbig]
        simp only [Sem.run_bind, run_choose, hq, Bool.false_eq_true, if_false, Result.andThen_ok]
        obtain ⟨info2, hj1, hj2, hj3⟩ := hT.info hei ({ w with drawn := w.drawn + 1 } : World)
        simp only [hj1, Result.andThen_ok, run_askRoom, hold ({ w with drawn := w.drawn + 1 } : World) rfl, Bool.not_false, if_true, s4 ({ w with drawn := w.drawn + 1 } : World) rfl, hz]
        simp only [newRow, Sem.run_bind, run_newObj, Result.andThen_ok, Sem.run_pure, pushed]

/-- 'o' has m elements of 'esz' cells, lying as g says -/
def Made (ρ : Nat → Loc) (n esz : Nat) (o : AObj) (m : Nat) (g : Nat → Option Value) : Prop :=
  match o with
  | .ints k xs => esz = 1 ∧ xs.length = m ∧ ∀ j, j < m → g j = some (.int k (xs.getD j 0))
  | .row els => els.length = m ∧ ∀ i x, els[i]? = some x → asz x = esz ∧ CAt ρ n (fun j => g (i * esz + j)) x 0
  | _ => False

theorem Made.dead {n esz : Nat} {o : AObj} {g : Nat → Option Value} {l : Loc} (h : Made ρ n esz o 0 g) (hl : l.tot ≤ l.base) : ¬ o.lv l = true := by
  cases o with
  | ints k xs => have := List.eq_nil_of_length_eq_zero h.2.1; subst this; simp [AObj.lv, hl]
  | row els => have := List.eq_nil_of_length_eq_zero h.1; subst this; simp [AObj.lv, hl]
  | _ => exact h.elim

theorem Made.mono {ρ' : Nat → Loc} {n n' esz m : Nat} {o : AObj} {g : Nat → Option Value} (hn : n ≤ n') (hr : ∀ b, b < n → ρ' b = ρ b) (h : Made ρ n esz o m g) : Made ρ' n' esz o m g := by
  cases o with
  | ints k xs => exact h
  | row els => exact ⟨h.1, fun i x hx => ⟨(h.2 i x hx).1, CAt_mono hn hr _ _ _ (h.2 i x hx).2⟩⟩
  | _ => exact h.elim

theorem Made.obj {n esz m blk base tot : Nat} {o : AObj} {g : Nat → Option Value} {cells : Array Value} {ty : TypeId} {fz : Nat × Nat} {w : World} (h : Made ρ n esz o m g) (hw : w.heap[blk]? = some (.cells cells ty fz))
    (ht : tot = cells.size) (hf : fz.1 = fz.2 ∨ cells.size ≤ fz.1) (hl : base + m * esz ≤ cells.size) (hg : ∀ j, j < m * esz → cells[base + j]? = g j) : ObjOk ρ n w ⟨blk, base, tot, esz⟩ false o := by
  cases o with
  | ints k xs =>
    obtain ⟨h1, h2, h3⟩ := h
    subst h1
    exact fun _ => ⟨rfl, cells, ty, fz, hw, ht, fun _ => hf, by show base + xs.length ≤ _; omega, fun j hj => by rw [hg j (by omega)]; exact h3 j (by omega)⟩
  | row els =>
    obtain ⟨h1, h2⟩ := h
    refine fun _ => ⟨cells, ty, fz, hw, ht, fun _ => hf, by show base + els.length * esz ≤ _; rw [h1]; exact hl, fun i x hx => ?_⟩
    obtain ⟨g1, g2⟩ := h2 i x hx
    refine ⟨g1, CAt_congr x 0 (fun j _ hj => ?_) g2⟩
    have hi : i < m := by
      rw [← h1]
      rcases Nat.lt_or_ge i els.length with q | q
      · exact q
      · rw [List.getElem?_eq_none q] at hx; cases hx
    have := rowIdx (l := 0) (sz := esz) hi
    show cells[base + i * esz + j]? = g (i * esz + j)
    rw [Nat.add_assoc, hg _ (by omega)]
  | _ => exact h.elim

/-- a list of whole numbers, or of rows -/
def AObj.list : AObj → Bool
  | .ints _ _ => true
  | .row _ => true
  | _ => false

theorem made_of_obj {n : Nat} {l : Loc} {ro : Bool} {o : AObj} (h : ObjOk ρ n w l ro o) (hl : o.list = true) (hlv : o.lv l = true) :
    ∃ m cells ty fz, Made ρ n l.esz o m (fun j => cells[l.base + j]?) ∧ w.heap[l.blk]? = some (.cells cells ty fz) ∧ l.tot = cells.size ∧ (ro = false → (fz.1 = fz.2 ∨ cells.size ≤ fz.1)) ∧ l.base + m * l.esz ≤ cells.size ∧
      (∀ j, j < m * l.esz → ∃ c, cells[l.base + j]? = some c ∧ c.oneCell' = true) := by
  cases o with
  | ints k xs =>
    obtain ⟨q1, cells, ty, fz, q2, q3, q4, q5, q6⟩ := h hlv
    refine ⟨xs.length, cells, ty, fz, ⟨q1, rfl, q6⟩, q2, q3, q4, by rw [q1]; omega, fun j hj => ⟨_, q6 j (by rw [q1] at hj; omega), rfl⟩⟩
  | row els =>
    obtain ⟨cells, ty, fz, q2, q3, q4, q5, q6⟩ := h hlv
    refine ⟨els.length, cells, ty, fz, ⟨rfl, fun i x hx => ?_⟩, q2, q3, q4, q5, fun j hj => ?_⟩
    · obtain ⟨g1, g2⟩ := q6 i x hx
      exact ⟨g1, by simpa [Nat.add_assoc] using g2⟩
    · have hz : 0 < l.esz := by
        rcases Nat.eq_zero_or_pos l.esz with e | e
        · rw [e] at hj; omega
        · exact e
      have hi : j / l.esz < els.length := (Nat.div_lt_iff_lt_mul hz).2 hj
      obtain ⟨g1, g2⟩ := q6 (j / l.esz) els[j / l.esz] (List.getElem?_eq_getElem hi)
      obtain ⟨c, k1, k2⟩ := CAt_cell _ 0 (j % l.esz) g2 (by omega) (by rw [g1, Nat.zero_add]; exact Nat.mod_lt _ hz)
      refine ⟨c, ?_, k2⟩
      have := Nat.div_add_mod j l.esz
      rw [Nat.mul_comm] at this
      rw [← k1]; congr 1; omega
  | _ => cases hl

/-- joined lists -/
theorem made_join {n esz m1 m2 : Nat} {g g' : Nat → Option Value} {news : List Value} {o o' src : AObj} {off len : Nat} (h : Made ρ n esz o m1 g) (hs : Made ρ n esz src m2 (fun j => news[j]?)) (hol : off + len ≤ m1)
    (ho : (∃ k xs ys, o = .ints k xs ∧ src = .ints k ys ∧ o' = .ints k ((xs.drop off).take len ++ ys)) ∨ (∃ xs ys, o = .row xs ∧ src = .row ys ∧ o' = .row ((xs.drop off).take len ++ ys)))
    (h1 : ∀ j, j < len * esz → g' j = g (off * esz + j)) (h2 : ∀ j, j < m2 * esz → g' (len * esz + j) = news[j]?) : Made ρ n esz o' (len + m2) g' := by
  rcases ho with ⟨k, xs, ys, rfl, rfl, rfl⟩ | ⟨xs, ys, rfl, rfl, rfl⟩
  · obtain ⟨a1, a2, a3⟩ := h
    obtain ⟨b1, b2, b3⟩ := hs
    subst a1
    have hl : ((xs.drop off).take len).length = len := by simp; omega
    refine ⟨rfl, by simp; omega, fun j hj => ?_⟩
    rcases Nat.lt_or_ge j len with q | q
    · have e1 := h1 j (by omega)
      rw [e1, Nat.mul_one, a3 _ (by omega)]
      congr 2
      simp only [List.getD]
      rw [List.getElem?_append_left (by omega), List.getElem?_take_of_lt q, List.getElem?_drop]
    · have e2 := h2 (j - len) (by omega)
      rw [show len * 1 + (j - len) = j by omega] at e2
      have e3 := b3 (j - len) (by omega)
      simp only at e3
      rw [e2, e3]
      congr 2
      simp only [List.getD]
      rw [List.getElem?_append_right (by omega), hl]
  · obtain ⟨a2, a3⟩ := h
    obtain ⟨b2, b3⟩ := hs
    have hl : ((xs.drop off).take len).length = len := by simp; omega
    refine ⟨by simp; omega, fun i x hx => ?_⟩
    rcases Nat.lt_or_ge i len with q | q
    · rw [List.getElem?_append_left (by omega), List.getElem?_take_of_lt q, List.getElem?_drop] at hx
      obtain ⟨c1, c2⟩ := a3 _ _ hx
      refine ⟨c1, CAt_congr x 0 (fun j _ hj => ?_) c2⟩
      have := rowIdx (l := 0) (sz := esz) q
      rw [h1 _ (by omega)]
      congr 1
      rw [Nat.add_mul]; omega
    · rw [List.getElem?_append_right (by omega), hl] at hx
      obtain ⟨c1, c2⟩ := b3 _ _ hx
      refine ⟨c1, CAt_congr x 0 (fun j _ hj => ?_) c2⟩
      have hi : i - len < m2 := by
        rw [← b2]
        rcases Nat.lt_or_ge (i - len) ys.length with p | p
        · exact p
        · rw [List.getElem?_eq_none p] at hx; cases hx
      have := rowIdx (l := 0) (sz := esz) hi
      show g' (i * esz + j) = news[(i - len) * esz + j]?
      rw [← h2 _ (by omega)]
      congr 1
      have : i * esz = len * esz + (i - len) * esz := by rw [← Nat.add_mul]; congr 1; omega
      omega

include hT hs in
theorem evAppend_sound {t t2 ty e : TypeId} {ei : TI} {base : AV} {cb cx : Value} {n : Nat} {news : List Value} {fr : AObj} {mk : Nat → Nat → AObj → (AObj → Prop) → Prop} {K : Kont}
    (hbase : VR ρ hp.length base cb) (ht : td T t = .slice e) (hei : T e = some ei) (ht2 : (match td T t2 with | .slice _ => true | .str => true | _ => false) = true) (hb8 : ei.bys ≤ 8192) (hsz : 0 < ei.sz)
    (hsrc : Src P w ei.sz cx n news) (hfr : Made ρ hp.length ei.sz fr n (fun j => news[j]?))
    (hmk : ∀ off len o Ko, mk off len o Ko → o.list = true ∧ ((∃ k xs, o = .ints k xs) → ei.sz = 1) ∧ ∃ o', Ko o' ∧ ∀ m g, Made ρ hp.length ei.sz o m g → off + len ≤ m ∧
      ∀ g', (∀ j, j < len * ei.sz → g' j = g (off * ei.sz + j)) → (∀ j, j < n * ei.sz → g' (len * ei.sz + j) = news[j]?) → Made ρ hp.length ei.sz o' (len + n) g')
    (h : evAppend hp ei.sz base n fr mk K) : Res P w0 ρ hp w (Builtin.append_ #[t, t2] ty #[cb, cx]) K := by
  unfold evAppend at h
  have s2 := hsrc.2.1
  have s3 := hsrc.2.2.1
  have hw1 : HSat w0 ρ hp ({ w with drawn := w.drawn + 1 } : World) := hs.congr rfl rfl rfl rfl
  split at h
  · simp only [VR] at hbase
    obtain ⟨rfl, _⟩ := hbase
    obtain ⟨h0, h1⟩ := h
    rcases Nat.eq_zero_or_pos n with hn | hn
    · have hK := h0 hn
      rcases run_append (P := P) (w := w) (ty := ty) (base := none) (len := 0) (c := 0) (olds := []) hT ht hei ht2 hb8 hsz hsrc (by rw [hn]; decide) (fun w' _ => rfl) (by simp) (Nat.le_refl _) (fun _ => ⟨w, rfl⟩) with ⟨w', _, g1, g2⟩ | ⟨c', cells, g1, _⟩
      · cases g1
        subst hn
        exact Res.same hs hK g2 (by simp only [VR]; exact ⟨trivial, rfl⟩)
      · omega
    · obtain ⟨hroom, h1⟩ := h1 hn
      have hK := newEntK_sound _ h1
      rcases run_append (P := P) (w := w) (ty := ty) (base := none) (len := 0) (c := 0) (olds := []) hT ht hei ht2 hb8 hsz hsrc (by omega) (fun w' _ => rfl) (by simp) (Nat.le_refl _) (fun hc => by omega) with ⟨w', hc, _, _⟩ | ⟨c', cells, g1, g2, g3, g4, g5⟩
      · omega
      · simp only [List.nil_append, s2, Nat.zero_add] at g4 g5 g2
        refine ⟨_, _, _, upd ρ hp.length ⟨w.heap.size, 0, cells.size, ei.sz⟩, _, hK, g5, ?_, ?_, by simp, fun b hb => upd_lt hb⟩
        · have := VR_slice_new (ρ := ρ) (n := hp.length) (blk := w.heap.size) (len := n) (c := c') (tot := cells.size) (esz := ei.sz) (cap := none) g2 (fun q hq => by cases hq) (by omega)
          simpa using this
        · refine fresh_pushed (w := { w with drawn := w.drawn + 1 }) hw1 _ _ _ _ ?_
          have hle : n * ei.sz ≤ c' * ei.sz := Nat.mul_le_mul_right _ g2
          exact (hfr.mono (Nat.le_succ _) (fun b hb => upd_lt hb)).obj (pushed_heap _ _ _) rfl (.inl rfl) (by omega) (fun j hj => by rw [Nat.zero_add]; exact g4 j hj)
  · rename_i b off len cap
    obtain ⟨en, hen, h⟩ := entK_sound h
    split at h
    case h_2 => exact h.elim
    rename_i hro hez
    have hez' := Nat.eq_of_beq_eq_true hez
    obtain ⟨hroom, h⟩ := h
    obtain ⟨hlist, hone, o', h, hm⟩ := hmk _ _ _ _ h
    obtain ⟨hblt, h⟩ := setObjK_sound h
    have hK := newEntK_sound _ h
    have hρz := hs.esz b en hen
    have ho := hs.obj b en hen
    rw [hro] at ho
    have hlen : ((dropV b hp).set b ⟨en.esz, en.ro, en.par, .gone⟩).length = hp.length := by simp [dropV_length]
    by_cases hlive : en.o.lv (ρ b) = true
    case neg =>
      -- nothing stands there, and there is no room
      have hnr := lv_not hlive
      have hgone := hs.dull hen .gone (by simp [AObj.lv])
      rcases hnr with hg | ⟨hnr, hem⟩
      · rw [hg] at hlist; cases hlist
      have hM : Made ρ hp.length ei.sz en.o 0 (fun _ => none) := by
        rcases hem with ⟨k, hk⟩ | hk
        · rw [hk]; exact ⟨hone ⟨k, [], hk⟩, rfl, fun j hj => by omega⟩
        · rw [hk]; exact ⟨rfl, fun i x hx => by simp at hx⟩
      obtain ⟨k1, k2⟩ := hm 0 _ hM
      have hl0 : len = 0 := by omega
      subst hl0
      simp only [VR] at hbase
      obtain ⟨hb, ad, c, rfl, hlc, hcap, had⟩ := hbase
      have hc0 : c = 0 := by
        rcases had with rfl | ⟨_, htot⟩
        · rfl
        · have := Nat.mul_le_mul_left (off + c) (show 1 ≤ (ρ b).esz by rw [hρz, hez']; omega)
          omega
      subst hc0
      have hnew : ∀ g', (∀ j, j < n * ei.sz → g' j = news[j]?) → Made ρ hp.length ei.sz o' n g' := by
        intro g' hg'
        have := k2 g' (fun j hj => by omega) (fun j hj => by rw [Nat.zero_mul, Nat.zero_add]; exact hg' j hj)
        rwa [Nat.zero_add] at this
      rcases run_append (P := P) (w := w) (ty := ty) (base := ad) (len := 0) (c := 0) (olds := []) hT ht hei ht2 hb8 hsz hsrc hroom
          (fun w' _ => by cases ad <;> simp [Builtin.firstCells, loadCells, loadCellsFrom]) (by simp) (Nat.le_refl _) (fun hfit => by
            have : news = [] := by
              apply List.eq_nil_of_length_eq_zero
              rw [s2, show n = 0 by omega, Nat.zero_mul]
            subst this
            exact ⟨w, by cases ad <;> rfl⟩) with ⟨w', hfit, g1, g2⟩ | ⟨c', cells2, g1, g2, g3, g4, g5⟩
      · have hn0 : n = 0 := by omega
        subst hn0
        have : news = [] := by
          apply List.eq_nil_of_length_eq_zero
          rw [s2, Nat.zero_mul]
        subst this
        have hw : w' = w := by
          have h2 : (match ad with | some a => storeCells (a.add (0 * ei.sz)) [] | none => pure ()).run P w = .ok () w := by cases ad <;> rfl
          rw [h2] at g1; cases g1; rfl
        subst hw
        have hd := Made.dead (l := ⟨0, 0, 0, ei.sz⟩) (hnew (fun _ => none) (fun j hj => by omega)) (Nat.le_refl _)
        have hadd := hgone.add ⟨ei.sz, false, none, o'⟩ ⟨0, 0, 0, ei.sz⟩ rfl rfl rfl (fun h => absurd h hd) (fun h => absurd h hd) (obj_dead hd)
        rw [hlen] at hadd
        refine ⟨_, _, _, _, _, hK, g2, ?_, hadd, by simp [dropV_length], fun b hb => upd_lt hb⟩
        simp only [VR, List.length_append, hlen, List.length_singleton, upd_self]
        exact ⟨by omega, ad, 0, rfl, by omega, (fun q hq => by cases hq), .inl rfl⟩
      · have hle3 : n * ei.sz ≤ c' * ei.sz := Nat.mul_le_mul_right _ (by omega)
        simp only [List.nil_append, s2] at g4
        have hg2 : HSat w0 ρ ((dropV b hp).set b ⟨en.esz, en.ro, en.par, .gone⟩) ({ w with drawn := w.drawn + 1 } : World) := hgone.congr rfl rfl rfl rfl
        have hadd := fresh_pushed (w := ({ w with drawn := w.drawn + 1 } : World)) hg2 cells2 e ei.sz o' (by
          rw [hlen]
          exact ((hnew (fun j => news[j]?) (fun j hj => rfl)).mono (Nat.le_succ _) (fun b hb => upd_lt hb)).obj (pushed_heap _ _ _) rfl (.inl rfl) (by omega) (fun j hj => by rw [Nat.zero_add]; exact g4 j hj))
        rw [hlen] at hadd
        refine ⟨_, _, _, _, _, hK, g5, ?_, hadd, by simp [dropV_length], fun b hb => upd_lt hb⟩
        have := VR_slice_new (ρ := ρ) (n := hp.length) (blk := w.heap.size) (len := 0 + n) (c := c') (tot := cells2.size) (esz := ei.sz) (cap := none) g2 (fun q hq => by cases hq) (by omega)
        simpa [dropV_length] using this
    have hown := hs.own b en hen hro hlive
    obtain ⟨m, cells, cty, fz, q1, q2, q3, q4, q5, q6⟩ := made_of_obj ho hlist hlive
    rw [hρz, hez'] at q1 q5 q6
    obtain ⟨hol, hm⟩ := hm m _ q1
    simp only [VR] at hbase
    obtain ⟨hb, ad, c, rfl, hlc, hcap, had⟩ := hbase
    have hlen : ((dropV b hp).set b ⟨en.esz, en.ro, en.par, .gone⟩).length = hp.length := by simp [dropV_length]
    rw [hlen] at hK
    have hle1 : (off + len) * ei.sz ≤ m * ei.sz := Nat.mul_le_mul_right _ hol
    rw [Nat.add_mul] at hle1
    -- the elder elements, read
    have holds : ∃ olds : List Value, olds.length = len * ei.sz ∧ (∀ j, j < len * ei.sz → olds[j]? = cells[(ρ b).base + off * ei.sz + j]?) ∧ (c ≠ 0 ∨ len = 0) ∧
        ∀ w' : World, w'.heap = w.heap → (Builtin.firstCells ei.sz len (.slice ad len c)).run P w' = .ok olds.toArray w' := by
      rcases had with rfl | ⟨rfl, htot⟩
      · have : len = 0 := by omega
        subst this
        exact ⟨[], by simp, fun j hj => by omega, .inr rfl, fun w' _ => by cases ad <;> simp [Builtin.firstCells, loadCells, loadCellsFrom]⟩
      · obtain ⟨cs, c1, c2, c3⟩ := run_cells (P := P) (o := (ρ b).base + off * ei.sz) (n := len * ei.sz) q2 (by omega)
        refine ⟨cs, c2, c3, (by omega), fun w' hw' => ?_⟩
        have hw2 : w'.heap[(ρ b).blk]? = some (.cells cells cty fz) := by rw [hw']; exact q2
        obtain ⟨cs', d1, d2, d3⟩ := run_cells (P := P) (o := (ρ b).base + off * ei.sz) (n := len * ei.sz) hw2 (by omega)
        have : cs' = cs := by
          apply List.ext_getElem?
          intro j
          rcases Nat.lt_or_ge j (len * ei.sz) with p | p
          · rw [d3 j p, c3 j p]
          · rw [List.getElem?_eq_none (by omega), List.getElem?_eq_none (by omega)]
        subst this
        simp only [Builtin.firstCells, hρz, hez']
        exact d1
    obtain ⟨olds, o1, o2, o3, o4⟩ := holds
    have hstore : len + n ≤ c → (match ad with | some a => storeCells (a.add (len * ei.sz)) news | none => pure ()).run P w = .ok () (w.setCells (ρ b).blk ((ρ b).base + off * ei.sz + len * ei.sz) news) ∧ (c = 0 ∨ (ad = some ⟨(ρ b).blk, (ρ b).base + off * ei.sz, none⟩ ∧ (ρ b).base + (off + c) * ei.sz ≤ cells.size)) := by
      intro hfit
      rcases had with rfl | ⟨rfl, htot⟩
      · have : news = [] := by
          apply List.eq_nil_of_length_eq_zero
          rw [s2, show n = 0 by omega, Nat.zero_mul]
        subst this
        exact ⟨by cases ad <;> rfl, .inl rfl⟩
      · rw [hρz, hez', q3] at htot
        have hle2 : (off + (len + n)) * ei.sz ≤ (off + c) * ei.sz := Nat.mul_le_mul_right _ (by omega)
        rw [Nat.add_mul, Nat.add_mul] at hle2
        refine ⟨?_, .inr ⟨by rw [hρz, hez'], htot⟩⟩
        simp only
        rw [hρz, hez', addr_add]
        exact store_cells q2 (q4 rfl) (by rw [s2]; omega) s3
    rcases run_append (P := P) (w := w) (ty := ty) (base := ad) (len := len) (c := c) (olds := olds) hT ht hei ht2 hb8 hsz hsrc hroom o4 o1 hlc (fun hfit => ⟨_, (hstore hfit).1⟩) with ⟨w', hfit, g1, g2⟩ | ⟨c', cells2, g1, g2, g3, g4, g5⟩
    · -- in place
      obtain ⟨k1, k2⟩ := hstore hfit
      rw [k1] at g1
      cases g1
      have hfits : (ρ b).base + off * ei.sz + len * ei.sz + news.length ≤ cells.size := by
        rw [s2]
        rcases k2 with k2 | ⟨_, htot⟩
        · have e1 : n = 0 := by omega
          rw [e1, Nat.zero_mul]; omega
        · have hle2 : (off + (len + n)) * ei.sz ≤ (off + c) * ei.sz := Nat.mul_le_mul_right _ (by omega)
          rw [Nat.add_mul, Nat.add_mul] at hle2
          omega
      obtain ⟨cells', p1, p2, p3, p4, p5, p6, p7, p8, p9, p10⟩ := setCells_facts news (ρ b).blk ((ρ b).base + off * ei.sz + len * ei.sz) w cells cty fz q2 hfits
      rw [s2] at p3 p4 hfits
      have hgone := hs.set (w' := w.setCells (ρ b).blk ((ρ b).base + off * ei.sz + len * ei.sz) news) hen hro hlive .gone p5 p6 p7 p8 p9 trivial
      have hnew := hgone.add ⟨ei.sz, false, none, o'⟩ ⟨(ρ b).blk, (ρ b).base + off * ei.sz, (ρ b).tot, ei.sz⟩ rfl rfl rfl (fun _ => ⟨hown.1, by rw [p6]; exact hown.2⟩) (fun _ i x hx hr hl => by
          rcases set_get hx with ⟨z1, z2⟩ | ⟨z1, z2⟩
          · rw [z2] at hl; cases hl
          · obtain ⟨y, z3, z4⟩ := dropV_get z2
            subst z4
            split at hl
            · cases hl
            · rename_i hp'
              rw [if_neg hp'] at hr
              exact hs.apart i b y en z3 hen z1 hr hro hl hlive) (by
          rw [hlen]
          refine ((hm (fun j => cells'[(ρ b).base + off * ei.sz + j]?) (fun j hj => ?_) (fun j hj => ?_)).mono (Nat.le_succ _) (fun b hb => upd_lt hb)).obj p1 (by rw [p2]; exact q3) (by rw [p2]; exact q4 rfl) (by rw [p2, Nat.add_mul]; omega) (fun j hj => rfl)
          · show cells'[(ρ b).base + off * ei.sz + j]? = cells[(ρ b).base + (off * ei.sz + j)]?
            rw [p3 _ (by omega), Nat.add_assoc]
          · show cells'[(ρ b).base + off * ei.sz + (len * ei.sz + j)]? = _
            rw [← p4 j (by omega)]
            congr 1; omega)
      rw [hlen] at hnew
      refine ⟨_, _, _, _, _, hK, g2, ?_, hnew, by simp [dropV_length], fun b hb => upd_lt hb⟩
      simp only [VR, List.length_append, hlen, List.length_singleton, upd_self]
      refine ⟨by omega, ad, c, rfl, hfit, (fun q hq => by cases hq), ?_⟩
      rcases k2 with k2 | ⟨k2, htot⟩
      · exact .inl k2
      · right
        rw [Nat.zero_mul, Nat.add_zero, Nat.zero_add, q3]
        refine ⟨k2, ?_⟩
        rw [Nat.add_mul] at htot
        omega
    · -- a new array
      have hgone := hs.set (w' := ({ w with drawn := w.drawn + 1 } : World)) hen hro hlive .gone (fun _ _ => rfl) rfl rfl rfl rfl trivial
      have hle3 : (len + n) * ei.sz ≤ c' * ei.sz := Nat.mul_le_mul_right _ g2
      have hjoin : (olds ++ news).length = (len + n) * ei.sz := by rw [List.length_append, o1, s2, Nat.add_mul]
      rw [hjoin] at g4
      have hnew := fresh_pushed (w := ({ w with drawn := w.drawn + 1 } : World)) hgone cells2 e ei.sz o' (by
        rw [hlen]
        refine ((hm (fun j => (olds ++ news)[j]?) (fun j hj => ?_) (fun j hj => ?_)).mono (Nat.le_succ _) (fun b hb => upd_lt hb)).obj (pushed_heap _ _ _) rfl (.inl rfl) (by omega) (fun j hj => by rw [Nat.zero_add]; exact g4 j hj)
        · show (olds ++ news)[j]? = cells[(ρ b).base + (off * ei.sz + j)]?
          rw [List.getElem?_append_left (by omega), o2 j hj, Nat.add_assoc]
        · show (olds ++ news)[len * ei.sz + j]? = _
          rw [List.getElem?_append_right (by omega), o1]
          congr 1; omega)
      rw [hlen] at hnew
      refine ⟨_, _, _, _, _, hK, g5, ?_, hnew, by simp [dropV_length], fun b hb => upd_lt hb⟩
      have := VR_slice_new (ρ := ρ) (n := hp.length) (blk := w.heap.size) (len := len + n) (c := c') (tot := cells2.size) (esz := ei.sz) (cap := none) g2 (fun q hq => by cases hq) (by omega)
      simpa [dropV_length] using this
  · exact h.elim

/-- the rows that a slice holds -/
theorem rowOf_sound {sz : Nat} {x : AV} {cx : Value} {K : List (List AV) → Prop} (hs : HSat w0 ρ hp w) (hz : 0 < sz) (hx : VR ρ hp.length x cx) (h : rowOf hp sz x K) :
    ∃ els news, K els ∧ Src P w sz cx els.length news ∧ Made ρ hp.length sz (.row els) els.length (fun j => news[j]?) := by
  unfold rowOf at h
  split at h
  · simp only [VR] at hx
    obtain ⟨rfl, _⟩ := hx
    exact ⟨[], [], h, src_nil, rfl, fun i x hx => by simp at hx⟩
  · rename_i b off len cap
    obtain ⟨e, he, h⟩ := entK_sound h
    split at h
    case h_2 => exact h.elim
    rename_i els heo
    split at h
    case h_2 => exact h.elim
    rename_i hk
    have hk' := Nat.eq_of_beq_eq_true hk
    obtain ⟨hlen, hK⟩ := h
    have hob := hs.obj b e he
    have hez := hs.esz b e he
    rw [heo] at hob
    simp only [VR] at hx
    obtain ⟨hb, ad, c, rfl, hlc, _, had⟩ := hx
    have hl : ((els.drop off).take len).length = len := by simp; omega
    rcases Nat.eq_zero_or_pos len with h0 | h0
    · subst h0
      refine ⟨_, [], hK, ?_, by simp, fun i x hx => by simp at hx⟩
      rw [List.take_zero]
      exact ⟨fun w' => by cases ad <;> rfl, by simp, by simp, fun w' _ => by cases ad <;> simp [Builtin.firstCells, loadCells, loadCellsFrom]⟩
    obtain ⟨cells, ty, fz, q2, q3, q4, q5, q6⟩ := hob (lv_row (i := 0) (by omega))
    rw [hez, hk'] at q5 q6
    rcases had with rfl | ⟨rfl, _⟩
    · omega
    · have hle : (off + len) * sz ≤ els.length * sz := Nat.mul_le_mul_right _ hlen
      rw [Nat.add_mul] at hle
      obtain ⟨cs, c1, c2, c3⟩ := run_cells (P := P) (o := (ρ b).base + off * sz) (n := len * sz) q2 (by omega)
      have hcell : ∀ j, j < len * sz → ∃ u, cells[(ρ b).base + off * sz + j]? = some u ∧ u.oneCell' = true := by
        intro j hj
        have hi : j / sz < len := (Nat.div_lt_iff_lt_mul hz).2 hj
        obtain ⟨g1, g2⟩ := q6 (off + j / sz) els[off + j / sz] (List.getElem?_eq_getElem (by omega))
        obtain ⟨u, k1, k2⟩ := CAt_cell _ 0 (j % sz) g2 (by omega) (by rw [g1, Nat.zero_add]; exact Nat.mod_lt _ hz)
        refine ⟨u, ?_, k2⟩
        have := Nat.div_add_mod j sz
        rw [Nat.mul_comm] at this
        rw [← k1]; congr 1
        rw [Nat.add_mul]; omega
      refine ⟨_, cs, hK, ?_, rfl, fun i x hx => ?_⟩
      · rw [hl]
        rw [hez, hk']
        refine src_slice c2 (fun u hu => ?_) (fun j v hv => ?_)
        · obtain ⟨j, hj, rfl⟩ := List.mem_iff_getElem.1 hu
          obtain ⟨u, k1, k2⟩ := hcell j (by omega)
          have := c3 j (by omega)
          rw [k1, List.getElem?_eq_getElem hj] at this
          cases this
          exact k2
        · have hj : j < len * sz := by
            rw [← c2]
            rcases Nat.lt_or_ge j cs.length with g | g
            · exact g
            · rw [List.getElem?_eq_none g] at hv; cases hv
          rw [addr_add, cell_of q2, ← c3 j hj]
          exact hv
      · have hi : i < len := by
          rcases Nat.lt_or_ge i len with g | g
          · exact g
          · rw [List.getElem?_eq_none (by omega)] at hx; cases hx
        rw [List.getElem?_take_of_lt hi, List.getElem?_drop] at hx
        obtain ⟨g1, g2⟩ := q6 _ _ hx
        refine ⟨g1, CAt_congr x 0 (fun j _ hj => ?_) g2⟩
        have := rowIdx (l := 0) (sz := sz) hi
        show cs[i * sz + j]? = _
        rw [c3 _ (by omega)]
        congr 1
        rw [Nat.add_mul]; omega
  · exact h.elim

include hT hs in
theorem evBuiltin_sound {bi : Builtin} {ts : Array TypeId} {ty : TypeId} {args : List AV} {cs : List Value} {K : Kont} {consts : Array Bool} (ha : VRs ρ hp.length args cs) (h : evBuiltin T hp bi ts.toList args K) :
    ∃ v cv hp' ρ' w', K v hp' ∧ (builtin bi ts ty consts cs.toArray).run P w = .ok (.value cv) w' ∧ VR ρ' hp'.length v cv ∧ HSat w0 ρ' hp' w' ∧ hp.length ≤ hp'.length ∧ ∀ b, b < hp.length → ρ' b = ρ b := by
  have lift : ∀ (s : Sem Value), Res P w0 ρ hp w s K → (builtin bi ts ty consts cs.toArray).run P w = (do pure (Next.value (← s))).run P w →
      ∃ v cv hp' ρ' w', K v hp' ∧ (builtin bi ts ty consts cs.toArray).run P w = .ok (.value cv) w' ∧ VR ρ' hp'.length v cv ∧ HSat w0 ρ' hp' w' ∧ hp.length ≤ hp'.length ∧ ∀ b, b < hp.length → ρ' b = ρ b := by
    rintro s ⟨v, cv, hp', ρ', w', k1, k2, k3, k4, k5, k6⟩ he
    refine ⟨v, cv, hp', ρ', w', k1, ?_, k3, k4, k5, k6⟩
    rw [he]; simp [k2]
  unfold evBuiltin at h
  split at h
  · -- len
    split at h
    case h_2 => exact h.elim
    rename_i t tr x hts
    simp only [VRs] at ha
    obtain ⟨cx, cr, rfl, hx, rfl⟩ := ha
    have ht0 : ts[0]? = some t := by
      have : ts.toList[0]? = some t := by rw [hts]; rfl
      simpa using this
    split at h
    · rename_i l
      split at h
      case h_2 => exact h.elim
      rename_i ht
      simp only [VR] at hx; subst hx
      have hsz : (⟨l.toArray⟩ : ByteArray).size = l.length := by simp [ByteArray.size]
      refine lift (Builtin.len_ ts ty #[.string ⟨l.toArray⟩]) (Res.same hs h (cv := goInt (l.length : Int)) ?_ (by simp only [VR]; rfl)) rfl
      simp [Builtin.len_, ht0, run_underlying (hT.u_str ht), hsz]
    · rename_i b off len cap
      split at h
      case h_2 => exact h.elim
      rename_i e ht
      simp only [VR] at hx
      obtain ⟨_, ad, c, rfl, _⟩ := hx
      refine lift (Builtin.len_ ts ty #[.slice ad len c]) (Res.same hs h (cv := goInt (len : Int)) ?_ (by simp only [VR]; rfl)) rfl
      cases ad <;> simp [Builtin.len_, ht0, run_underlying (hT.u_slice ht)]
    · split at h
      case h_2 => exact h.elim
      rename_i e ht
      simp only [VR] at hx
      obtain ⟨rfl, _⟩ := hx
      refine lift (Builtin.len_ ts ty #[.slice none 0 0]) (Res.same hs h (cv := goInt 0) ?_ (by simp only [VR]; rfl)) rfl
      simp [Builtin.len_, ht0, run_underlying (hT.u_slice ht)]
    · split at h
      case h_2 => exact h.elim
      rename_i m e ht
      refine lift (Builtin.len_ ts ty #[cx]) (Res.same hs h (cv := goInt (m : Int)) ?_ (by simp only [VR]; rfl)) rfl
      simp only [Builtin.len_, ht0, List.getElem?_toArray, List.getElem?_cons_zero, Sem.run_bind, run_underlying (hT.u_array ht), Result.andThen_ok]
      rfl
  · -- min
    split at h
    case h_2 => exact h.elim
    rename_i k a k' b
    simp only [VRs, VR] at ha
    obtain ⟨c, cr, rfl, rfl, c2, cr2, rfl, rfl, rfl⟩ := ha
    refine lift (Builtin.min_ ts ty #[.int k a, .int k' b]) (Res.same hs h (cv := .int k (if b < a then b else a)) ?_ (by simp only [VR])) rfl
    simp [Builtin.min_, Builtin.min2]
  · -- max
    split at h
    case h_3 => exact h.elim
    · rename_i k a k' b
      simp only [VRs, VR] at ha
      obtain ⟨c, cr, rfl, rfl, c2, cr2, rfl, rfl, rfl⟩ := ha
      refine lift (Builtin.max_ ts ty #[.int k a, .int k' b]) (Res.same hs h (cv := .int k (if b > a then b else a)) ?_ (by simp only [VR])) rfl
      simp [Builtin.max_, Builtin.max2]
    · rename_i k a k' b k'' c
      simp only [VRs, VR] at ha
      obtain ⟨c1, cr, rfl, rfl, c2, cr2, rfl, rfl, c3, cr3, rfl, rfl, rfl⟩ := ha
      refine lift (Builtin.max_ ts ty #[.int k a, .int k' b, .int k'' c]) (Res.same hs h (cv := .int k (if c > (if b > a then b else a) then c else (if b > a then b else a))) ?_ (by simp only [VR])) rfl
      simp [Builtin.max_, Builtin.max2, List.foldlM]
  · -- append
    split at h
    case h_2 => exact h.elim
    rename_i t t2 base x hts
    simp only [VRs] at ha
    obtain ⟨cb, cr, rfl, hb, cx, cr2, rfl, hx, rfl⟩ := ha
    have htsa : ts = #[t, t2] := by
      apply Array.ext'; rw [hts]
    subst htsa
    split at h
    case h_2 => exact h.elim
    rename_i d ht2
    generalize hd : td T t = d at h
    split at h
    case h_2 => exact h.elim
    rename_i e
    split at h
    case h_2 => exact h.elim
    rename_i ei hei
    refine lift (Builtin.append_ #[t, t2] ty #[cb, cx]) ?_ rfl
    split at h
    · rename_i k hk
      split at h
      case h_2 => exact h.elim
      rename_i h1 h2
      have h1' := Nat.eq_of_beq_eq_true h1
      have h2' := Nat.le_of_ble_eq_true h2
      obtain ⟨src, h, hsrc⟩ := intsOf_sound hs hx h
      have hS := src_of_ints (P := P) hsrc
      rw [← h1'] at hS
      have hM : Made ρ hp.length ei.sz (.ints k src) src.length (fun j => (src.map (Value.int k))[j]?) := ⟨h1', rfl, fun j hj => by simp [List.getD, List.getElem?_eq_getElem hj]⟩
      rw [← h1'] at h
      refine evAppend_sound hT hs hb hd hei ht2 (by omega) (by omega) hS hM (fun off len o Ko hko => ?_) h
      split at hko
      case h_2 => exact hko.elim
      rename_i k' xs
      split at hko
      case h_2 => exact hko.elim
      rename_i hkk
      have hkk' := of_decide_eq_true hkk
      subst hkk'
      obtain ⟨hol, hko⟩ := hko
      refine ⟨rfl, (fun _ => by omega), _, hko, fun m g hm => ?_⟩
      have hml : xs.length = m := hm.2.1
      refine ⟨by omega, fun g' g1 g2 => made_join hm hM (by omega) (.inl ⟨k, xs, src, rfl, rfl, rfl⟩) g1 g2⟩
    · rename_i hnk
      split at h
      case h_2 => exact h.elim
      rename_i h1 h2
      have h1' := Nat.le_of_ble_eq_true h1
      have h2' := Nat.le_of_ble_eq_true h2
      obtain ⟨els, news, h, hS, hM⟩ := rowOf_sound (P := P) hs (by omega) hx h
      refine evAppend_sound hT hs hb hd hei ht2 (by omega) (by omega) hS hM (fun off len o Ko hko => ?_) h
      split at hko
      case h_2 => exact hko.elim
      rename_i xs
      obtain ⟨hol, hko⟩ := hko
      refine ⟨rfl, (fun ⟨_, _, hh⟩ => by cases hh), _, hko, fun m g hm => ?_⟩
      have hml : xs.length = m := hm.1
      refine ⟨by omega, fun g' g1 g2 => made_join hm hM (by omega) (.inr ⟨xs, els, rfl, rfl, rfl⟩) g1 g2⟩
  · -- copy
    split at h
    case h_2 => exact h.elim
    rename_i t tr dst x hts
    simp only [VRs] at ha
    obtain ⟨cd, cr, rfl, hd, cx, cr2, rfl, hx, rfl⟩ := ha
    have ht0 : ts[0]? = some t := by
      have : ts.toList[0]? = some t := by rw [hts]; rfl
      simpa using this
    split at h
    case h_2 => exact h.elim
    rename_i b off len cap
    split at h
    case h_2 => exact h.elim
    rename_i e ht
    split at h
    case h_2 => exact h.elim
    rename_i ei hei
    split at h
    case h_2 => exact h.elim
    rename_i k hk h1
    have h1' := Nat.eq_of_beq_eq_true h1
    obtain ⟨src, h, hsrc⟩ := intsOf_sound hs hx h
    have hS := src_of_ints (P := P) hsrc
    obtain ⟨en, hen, h⟩ := entK_sound h
    split at h
    case h_2 => exact h.elim
    rename_i k' xs hro hob
    split at h
    case h_2 => exact h.elim
    rename_i hkk
    have hkk' := of_decide_eq_true hkk
    subst hkk'
    obtain ⟨hol, h⟩ := h
    obtain ⟨hblt, hK⟩ := setObjK_sound h
    have ho := hs.obj b en hen
    rw [hob, hro] at ho
    simp only [VR] at hd
    obtain ⟨hb, ad, c, rfl, hlc, hcap, had⟩ := hd
    obtain ⟨s1, s2, s3, s4⟩ := hS
    -- the cells that are copied
    let m := min src.length len
    have hsrcm : ∀ w', w'.heap = w.heap → (Builtin.firstCells 1 m cx).run P w' = .ok ((src.take m).map (Value.int k)).toArray w' := by
      intro w' hw'
      rcases hsrc with ⟨rfl, rfl⟩ | ⟨l, rfl, rfl, rfl⟩ | ⟨ad2, c2, rfl, hc⟩
      · simp [Builtin.firstCells]
      · simp only [Builtin.firstCells, Sem.run_pure]
        congr 1
        apply Array.ext'
        have hh := Lib.extract_data ⟨l.toArray⟩ 0 m
        simp only [Array.toList_map]
        rw [hh]
        clear_value m
        simp [bytesOfStr, List.map_take, Function.comp_def]
      · have := run_loadCells_list (P := P) w' ad2 ((src.take m).map (Value.int k)) (fun j v hv => by
          rw [cell_heap hw']
          refine hc j v ?_
          rw [List.getElem?_map] at hv ⊢
          have hj : j < m := by
            rcases Nat.lt_or_ge j m with g | g
            · exact g
            · rw [List.getElem?_eq_none (by simp; omega)] at hv; cases hv
          rwa [List.getElem?_take_of_lt hj] at hv)
        rw [List.length_map, List.length_take, Nat.min_eq_left (Nat.min_le_left _ _)] at this
        simpa [Builtin.firstCells] using this
    have hml : m ≤ len := Nat.min_le_right _ _
    have hms : m ≤ src.length := Nat.min_le_left _ _
    have hnl : ((src.take m).map (Value.int k)).length = m := by simp; omega
    by_cases hlive : (AObj.ints k xs).lv (ρ b) = true
    case neg =>
      rcases lv_not hlive with hg | ⟨hnr, hem⟩
      · cases hg
      have hx0 : xs = [] := by
        rcases hem with ⟨k', hk'⟩ | hk'
        · cases hk'; rfl
        · cases hk'
      subst hx0
      have hl0 : len = 0 := by simp at hol; omega
      have hm0 : m = 0 := by omega
      have hset := hs.dull hen (.ints k (List.take off [] ++ src.take m ++ List.drop (off + m) [])) (by rw [hm0]; simpa using hlive)
      have hst : (match ad with | some a => storeCells a ((src.take m).map (Value.int k)) | none => pure ()).run P w = .ok () w := by
        rw [hm0]; cases ad <;> rfl
      refine lift (Builtin.copy_ ts ty #[.slice ad len c, cx]) ⟨_, goInt (m : Int), _, ρ, _, hK, ?_, by simp only [VR]; rfl, hset, by simp [dropV_length], fun _ _ => rfl⟩ rfl
      simp only [Builtin.copy_, ht0, List.getElem?_toArray, List.getElem?_cons_zero, List.getElem?_cons_succ, Sem.run_bind, run_underlying (hT.u_slice ht), Result.andThen_ok, s1, hT.size hei w, h1']
      rw [show Nat.min src.length len = m from rfl, hsrcm w rfl]
      simp only [Result.andThen_ok, Sem.run_bind, Sem.run_pure]
      cases ad <;> simp only at hst ⊢ <;> simp only [Sem.run_bind, Sem.run_pure, hst, Result.andThen_ok]
    obtain ⟨q1, cells, cty, fz, q2, q3, q4, q5, q6⟩ := ho hlive
    obtain ⟨cells', p1, p2, p3, p4, p5, p6, p7, p8, p9, p10⟩ := setCells_facts ((src.take m).map (Value.int k)) (ρ b).blk ((ρ b).base + off) w cells cty fz q2 (by rw [hnl]; omega)
    rw [hnl] at p3 p4
    have hst : (match ad with | some a => storeCells a ((src.take m).map (Value.int k)) | none => pure ()).run P w = .ok () (w.setCells (ρ b).blk ((ρ b).base + off) ((src.take m).map (Value.int k))) := by
      rcases had with rfl | ⟨rfl, _⟩
      · have hm0 : m = 0 := by omega
        have : (src.take m).map (Value.int k) = [] := by rw [hm0]; simp
        rw [this]; cases ad <;> rfl
      · simp only
        rw [q1, Nat.mul_one]
        refine store_cells q2 (q4 rfl) (by rw [hnl]; omega) (fun u hu => ?_)
        obtain ⟨y, hy, hyu⟩ := List.mem_map.mp hu
        rw [← hyu]; rfl
    have hset := hs.set (w' := w.setCells (ρ b).blk ((ρ b).base + off) ((src.take m).map (Value.int k))) hen hro (by rw [hob]; exact hlive) (.ints k (xs.take off ++ src.take m ++ xs.drop (off + m))) p5 p6 p7 p8 p9 (by
      refine fun _ => ⟨q1, cells', cty, fz, p1, by rw [p2]; exact q3, fun _ => by rw [p2]; exact q4 rfl, by simp; omega, fun j hj => ?_⟩
      have hj' : j < xs.length := by simp at hj; omega
      by_cases hr : j < off ∨ off + m ≤ j
      · rw [p3 _ (by omega), q6 j hj']
        congr 2
        simp only [List.getD]
        congr 1
        rcases hr with hr | hr
        · rw [List.append_assoc, List.getElem?_append_left (by simp; omega), List.getElem?_take_of_lt hr]
        · rw [List.getElem?_append_right (by simp; omega), List.getElem?_drop]
          congr 1; simp; omega
      · have := p4 (j - off) (by omega)
        rw [show (ρ b).base + off + (j - off) = (ρ b).base + j by omega] at this
        rw [this, List.getElem?_map]
        have e1 : (xs.take off ++ src.take m ++ xs.drop (off + m)).getD j 0 = src.getD (j - off) 0 := by
          simp only [List.getD]
          rw [List.append_assoc, List.getElem?_append_right (by simp; omega), List.getElem?_append_left (by simp; omega), List.getElem?_take_of_lt (by simp; omega)]
          congr 2; simp; omega
        rw [e1, List.getElem?_take_of_lt (by omega), List.getElem?_eq_getElem (by omega)]
        simp [List.getD, List.getElem?_eq_getElem (show j - off < src.length by omega)])
    refine lift (Builtin.copy_ ts ty #[.slice ad len c, cx]) ⟨_, goInt (m : Int), _, ρ, _, hK, ?_, by simp only [VR]; rfl, hset, by simp [dropV_length], fun _ _ => rfl⟩ rfl
    simp only [Builtin.copy_, ht0, List.getElem?_toArray, List.getElem?_cons_zero, List.getElem?_cons_succ, Sem.run_bind, run_underlying (hT.u_slice ht), Result.andThen_ok, s1, hT.size hei w, h1']
    rw [show Nat.min src.length len = m from rfl, hsrcm w rfl]
    simp only [Result.andThen_ok, Sem.run_bind, Sem.run_pure]
    cases ad with
    | none =>
      simp only [Sem.run_pure] at hst ⊢
      have hww := (Result.ok.inj hst).2
      rw [← hww]
    | some a =>
      simp only at hst ⊢
      simp only [Sem.run_bind, Sem.run_pure, hst, Result.andThen_ok]
  · exact h.elim
end
end Go.Aw
