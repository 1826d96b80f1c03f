/-
  AwD: what becomes of a memory: a block more, a block that turns, a block that goes; what the table of types says. Own work of this session.
-/
import Derived.Test.YtdababcblhbpeaaAwC
import Derived.Laws.World
import Derived.Laws.IdiomCopy
set_option linter.unusedVariables false
set_option linter.unusedSimpArgs false
namespace Go.Aw

theorem lv_live {o : AObj} {l : Loc} (h : o.lv l = true) : o.live = true := by cases o <;> first | rfl | cases h
theorem ne_of_ix {α : Type} {l : List α} {i : Nat} (h : i < l.length) : l ≠ [] := by intro g; subst g; simp at h
theorem lt_of_ix {α : Type} {l : List α} {i : Nat} {x : α} (h : l[i]? = some x) : i < l.length := by
  rcases Nat.lt_or_ge i l.length with g | g
  · exact g
  · rw [List.getElem?_eq_none g] at h; cases h
theorem lv_ints {k : IntKind} {xs : List Int} {l : Loc} {i : Nat} (h : i < xs.length) : (AObj.ints k xs).lv l = true := by cases xs with | nil => simp at h | cons x r => rfl
theorem lv_row {els : List (List AV)} {l : Loc} {i : Nat} (h : i < els.length) : (AObj.row els).lv l = true := by cases els with | nil => simp at h | cons x r => rfl
/-- what has no block is empty, and has no room -/
theorem lv_not {o : AObj} {l : Loc} (h : ¬ o.lv l = true) : o = .gone ∨ (l.tot ≤ l.base ∧ ((∃ k, o = .ints k []) ∨ o = .row [])) := by
  cases o with
  | gone => exact .inl rfl
  | ints k xs => cases xs with
    | nil => simp [AObj.lv] at h; exact .inr ⟨h, .inl ⟨k, rfl⟩⟩
    | cons x r => exact absurd rfl h
  | var vs => exact absurd rfl h
  | row els => cases els with
    | nil => simp [AObj.lv] at h; exact .inr ⟨h, .inr rfl⟩
    | cons x r => exact absurd rfl h
/-- of what is not there nothing is asked -/
theorem obj_dead {ρ : Nat → Loc} {n : Nat} {w : World} {l : Loc} {ro : Bool} {o : AObj} (h : ¬ o.lv l = true) : ObjOk ρ n w l ro o := by
  cases o with
  | gone => trivial
  | ints k xs => exact fun g => absurd g h
  | var vs => exact absurd rfl h
  | row els => exact fun g => absurd g h

theorem ObjOk_mono {ρ ρ' : Nat → Loc} {n n' : Nat} {w w' : World} {l : Loc} {ro : Bool} {o : AObj} (hn : n ≤ n') (h : ∀ b, b < n → ρ' b = ρ b)
    (hw : w'.heap[l.blk]? = w.heap[l.blk]?) (ho : ObjOk ρ n w l ro o) : ObjOk ρ' n' w' l ro o := by
  cases o with
  | gone => trivial
  | ints k xs => simp only [ObjOk] at ho ⊢; rw [hw]; exact ho
  | var vs =>
    simp only [ObjOk] at ho ⊢
    rw [hw]
    obtain ⟨cells, ty, fz, h1, h2, h3, h4, h5, h6⟩ := ho
    exact ⟨cells, ty, fz, h1, h2, h3, h4, h5, CAt_mono hn h _ _ _ h6⟩
  | row els =>
    simp only [ObjOk] at ho ⊢
    rw [hw]
    intro hne
    obtain ⟨cells, ty, fz, h1, h2, h3, h4, h5⟩ := ho hne
    exact ⟨cells, ty, fz, h1, h2, h3, h4, fun i x hx => ⟨(h5 i x hx).1, CAt_mono hn h _ _ _ (h5 i x hx).2⟩⟩

/-- only the blocks' table matters, and what stands beside the memory -/
theorem HSat.congr {w0 : Base} {w w' : World} {ρ : Nat → Loc} {hp : Hp} (h : HSat w0 ρ hp w) (h1 : w'.heap = w.heap) (h2 : w'.tape = w.tape) (h3 : w'.os = w.os) (h4 : w'.output = w.output) : HSat w0 ρ hp w' where
  size := by rw [h1]; exact h.size
  old := by rw [h1]; exact h.old
  tape := by rw [h2]; exact h.tape
  os := by rw [h3]; exact h.os
  out := by rw [h4]; exact h.out
  esz := h.esz
  obj b e hb := ObjOk_mono (Nat.le_refl _) (fun _ _ => rfl) (by rw [h1]) (h.obj b e hb)
  own := by rw [h1]; exact h.own
  views := h.views
  given := h.given
  apart := h.apart

theorem heap_lt {w : World} {i : Nat} {o : Obj} (h : w.heap[i]? = some o) : i < w.heap.size := by
  rcases Nat.lt_or_ge i w.heap.size with h' | h'
  · exact h'
  · simp [Array.getElem?_eq_none h'] at h

theorem ObjOk.lt {ρ : Nat → Loc} {n : Nat} {w : World} {l : Loc} {ro : Bool} {o : AObj} (ho : ObjOk ρ n w l ro o) (hl : o.lv l = true) : l.blk < w.heap.size := by
  cases o with
  | gone => cases hl
  | ints k xs => obtain ⟨_, cells, ty, fz, h, _⟩ := ho hl; exact heap_lt h
  | var vs => obtain ⟨cells, ty, fz, h, _⟩ := ho; exact heap_lt h
  | row els => obtain ⟨cells, ty, fz, h, _⟩ := ho hl; exact heap_lt h

/-- a block more in the world -/
theorem HSat.push {w0 : Base} {w : World} {ρ : Nat → Loc} {hp : Hp} (h : HSat w0 ρ hp w) (o : Obj) (w' : World) (h1 : w'.heap = w.heap.push o) (h2 : w'.tape = w.tape) (h3 : w'.os = w.os) (h4 : w'.output = w.output) :
    HSat w0 ρ hp w' where
  size i hi := by rw [h1, Array.size_push]; have := h.size i hi; omega
  old i hi := by rw [h1, Array.getElem?_push]; have := h.size i hi; rw [if_neg (by omega)]; exact h.old i hi
  tape := by rw [h2]; exact h.tape
  os := by rw [h3]; exact h.os
  out := by rw [h4]; exact h.out
  esz := h.esz
  obj b e hb := by
    by_cases hl : e.o.lv (ρ b) = true
    · refine ObjOk_mono (Nat.le_refl _) (fun _ _ => rfl) ?_ (h.obj b e hb)
      have := (h.obj b e hb).lt hl
      rw [h1, Array.getElem?_push, if_neg (by omega)]
    · exact obj_dead hl
  own b e hb hr hl := by have := h.own b e hb hr hl; rw [h1, Array.size_push]; exact ⟨this.1, by omega⟩
  views := h.views
  given := h.given
  apart := h.apart

def upd (ρ : Nat → Loc) (n : Nat) (l : Loc) : Nat → Loc := fun b => if b = n then l else ρ b
theorem upd_lt {ρ : Nat → Loc} {n : Nat} {l : Loc} {b : Nat} (h : b < n) : upd ρ n l b = ρ b := by simp [upd]; omega
theorem upd_self {ρ : Nat → Loc} {n : Nat} {l : Loc} : upd ρ n l n = l := by simp [upd]

theorem get_snoc {hp : Hp} {e x : Ent} {b : Nat} (h : (hp ++ [e])[b]? = some x) : (b < hp.length ∧ hp[b]? = some x) ∨ (b = hp.length ∧ x = e) := by
  rcases Nat.lt_trichotomy b hp.length with hb | hb | hb
  · rw [List.getElem?_append_left hb] at h; exact .inl ⟨hb, h⟩
  · subst hb
    rw [List.getElem?_append_right (Nat.le_refl _)] at h
    simp at h; exact .inr ⟨rfl, h.symm⟩
  · rw [List.getElem?_eq_none (by simp; omega)] at h; cases h

/-- a block of the world that is nobody's gets a number -/
theorem HSat.add {w0 : Base} {w : World} {ρ : Nat → Loc} {hp : Hp} (h : HSat w0 ρ hp w) (e : Ent) (l : Loc) (hro : e.ro = false) (hpar : e.par = none) (hesz : l.esz = e.esz)
    (hown : e.o.lv l = true → ¬ w0.F l.blk ∧ l.blk < w.heap.size) (hap : e.o.lv l = true → ∀ b x, hp[b]? = some x → x.ro = false → x.o.lv (ρ b) = true → (ρ b).blk ≠ l.blk)
    (hobj : ObjOk (upd ρ hp.length l) (hp.length + 1) w l false e.o) : HSat w0 (upd ρ hp.length l) (hp ++ [e]) w where
  size := h.size
  old := h.old
  tape := h.tape
  os := h.os
  out := h.out
  esz b x hb := by
    rcases get_snoc hb with ⟨h1, h2⟩ | ⟨h1, h2⟩
    · rw [upd_lt h1]; exact h.esz b x h2
    · subst h1 h2; rw [upd_self]; exact hesz
  obj b x hb := by
    rcases get_snoc hb with ⟨h1, h2⟩ | ⟨h1, h2⟩
    · rw [upd_lt h1]
      exact ObjOk_mono (by simp) (fun b hb => upd_lt hb) rfl (h.obj b x h2)
    · subst h1 h2; rw [upd_self, hro]; simpa using hobj
  own b x hb hr hl := by
    rcases get_snoc hb with ⟨h1, h2⟩ | ⟨h1, h2⟩
    · rw [upd_lt h1] at hl ⊢; exact h.own b x h2 hr hl
    · subst h1 h2; rw [upd_self] at hl ⊢; exact hown hl
  views b x p hb hp' hl := by
    rcases get_snoc hb with ⟨h1, h2⟩ | ⟨h1, h2⟩
    · rw [upd_lt h1] at hl
      obtain ⟨g1, g2, e', g3, g4⟩ := h.views b x p h2 hp' hl
      have hlt : p < hp.length := by
        rcases Nat.lt_or_ge p hp.length with g | g
        · exact g
        · rw [List.getElem?_eq_none g] at g3; cases g3
      refine ⟨g1, ?_, e', ?_, by rw [upd_lt hlt]; exact g4⟩
      · rw [upd_lt h1, upd_lt hlt]; exact g2
      · rw [List.getElem?_append_left hlt]; exact g3
    · subst h2; rw [hpar] at hp'; cases hp'
  given b x hb hr hp' hl := by
    rcases get_snoc hb with ⟨h1, h2⟩ | ⟨h1, h2⟩
    · rw [upd_lt h1] at hl ⊢; exact h.given b x h2 hr hp' hl
    · subst h2; rw [hro] at hr; cases hr
  apart b b' x x' hb hb' hne hr hr' hl hl' := by
    rcases get_snoc hb with ⟨h1, h2⟩ | ⟨h1, h2⟩ <;> rcases get_snoc hb' with ⟨h1', h2'⟩ | ⟨h1', h2'⟩
    · rw [upd_lt h1] at hl ⊢; rw [upd_lt h1'] at hl' ⊢; exact h.apart b b' x x' h2 h2' hne hr hr' hl hl'
    · subst h1' h2'; rw [upd_lt h1] at hl ⊢; rw [upd_self] at hl' ⊢; exact hap hl' b x h2 hr hl
    · subst h1 h2; rw [upd_lt h1'] at hl' ⊢; rw [upd_self] at hl ⊢; exact fun g => hap hl b' x' h2' hr' hl' g.symm
    · omega

theorem dropV_get {b : Nat} {hp : Hp} {i : Nat} {x : Ent} (h : (dropV b hp)[i]? = some x) : ∃ y, hp[i]? = some y ∧ x = (if y.par = some b then ⟨y.esz, y.ro, y.par, .gone⟩ else y) := by
  simp only [dropV, List.getElem?_map, Option.map_eq_some_iff] at h
  obtain ⟨y, h1, h2⟩ := h
  exact ⟨y, h1, h2.symm⟩

theorem set_get {hp : Hp} {b : Nat} {e x : Ent} {i : Nat} (h : (hp.set b e)[i]? = some x) : (i = b ∧ x = e) ∨ (i ≠ b ∧ hp[i]? = some x) := by
  by_cases hi : b = i
  · subst hi
    rcases Nat.lt_or_ge b hp.length with hb | hb
    · rw [List.getElem?_set_self hb] at h; cases h; exact .inl ⟨rfl, rfl⟩
    · rw [List.getElem?_eq_none (by simpa using hb)] at h; cases h
  · rw [List.getElem?_set_ne hi] at h; exact .inr ⟨fun e => hi e.symm, h⟩

theorem dropV_length {b : Nat} {hp : Hp} : (dropV b hp).length = hp.length := by simp [dropV]

/-- a block of ours turns: nobody else sees it but what was cut out of it -/
theorem HSat.set {w0 : Base} {w w' : World} {ρ : Nat → Loc} {hp : Hp} (h : HSat w0 ρ hp w) {b : Nat} {e : Ent} (hb : hp[b]? = some e) (hr : e.ro = false) (hl : e.o.lv (ρ b) = true) (o : AObj)
    (h1 : ∀ i, i ≠ (ρ b).blk → w'.heap[i]? = w.heap[i]?) (hs : w'.heap.size = w.heap.size) (h2 : w'.tape = w.tape) (h3 : w'.os = w.os) (h4 : w'.output = w.output)
    (hobj : ObjOk ρ hp.length w' (ρ b) false o) : HSat w0 ρ ((dropV b hp).set b ⟨e.esz, e.ro, e.par, o⟩) w' where
  size := by rw [hs]; exact h.size
  old i hi := by
    have := (h.own b e hb hr hl).1
    rw [h1 i (fun g => this (g ▸ hi))]; exact h.old i hi
  tape := by rw [h2]; exact h.tape
  os := by rw [h3]; exact h.os
  out := by rw [h4]; exact h.out
  esz i x hx := by
    rcases set_get hx with ⟨g1, g2⟩ | ⟨g1, g2⟩
    · subst g1 g2; exact h.esz i e hb
    · obtain ⟨y, g3, g4⟩ := dropV_get g2
      have := h.esz i y g3
      subst g4; split <;> exact this
  obj i x hx := by
    simp only [List.length_set, dropV_length]
    rcases set_get hx with ⟨g1, g2⟩ | ⟨g1, g2⟩
    · subst g1 g2; rw [hr]; exact hobj
    · obtain ⟨y, g3, g4⟩ := dropV_get g2
      subst g4
      split
      · trivial
      · rename_i hpar
        by_cases hly : y.o.lv (ρ i) = true
        · refine ObjOk_mono (Nat.le_refl _) (fun _ _ => rfl) (h1 _ ?_) (h.obj i y g3)
          cases hry : y.ro with
          | false => exact h.apart i b y e g3 hb g1 hry hr hly hl
          | true =>
            cases hpy : y.par with
            | none =>
              have g5 := h.given i y g3 hry hpy hly
              have := (h.own b e hb hr hl).1
              exact fun g => this (g ▸ g5)
            | some p =>
              obtain ⟨q1, q2, e', q3, q4, q5⟩ := h.views i y p g3 hpy hly
              have hpb : p ≠ b := fun g => hpar (by rw [hpy, g])
              rw [q2]; exact h.apart p b e' e q3 hb hpb q4 hr q5 hl
        · exact obj_dead hly
  own i x hx hrx hlx := by
    rw [hs]
    rcases set_get hx with ⟨g1, g2⟩ | ⟨g1, g2⟩
    · subst g1 g2; exact h.own i e hb hr hl
    · obtain ⟨y, g3, g4⟩ := dropV_get g2
      subst g4
      split at hlx
      · cases hlx
      · rename_i hp'
        rw [if_neg hp'] at hrx
        exact h.own i y g3 hrx hlx
  views i x p hx hpx hlx := by
    rcases set_get hx with ⟨g1, g2⟩ | ⟨g1, g2⟩
    · subst g1 g2
      exact absurd (h.views i e p hb hpx hl).1 (by rw [hr]; simp)
    · obtain ⟨y, g3, g4⟩ := dropV_get g2
      subst g4
      split at hlx
      · cases hlx
      · rename_i hp'
        rw [if_neg hp'] at hpx ⊢
        obtain ⟨q1, q2, e', q3, q4, q5⟩ := h.views i y p g3 hpx hlx
        have hpb : p ≠ b := fun g => hp' (by rw [hpx, g])
        refine ⟨q1, q2, e', ?_, q4, q5⟩
        rw [List.getElem?_set_ne (fun g => hpb g.symm)]
        simp only [dropV, List.getElem?_map, q3, Option.map_some]
        rw [if_neg]
        intro g
        exact absurd (h.views p e' b q3 g q5).1 (by rw [q4]; simp)
  given i x hx hrx hpx hlx := by
    rcases set_get hx with ⟨g1, g2⟩ | ⟨g1, g2⟩
    · subst g1 g2; rw [hr] at hrx; cases hrx
    · obtain ⟨y, g3, g4⟩ := dropV_get g2
      subst g4
      split at hlx
      · cases hlx
      · rename_i hp'
        rw [if_neg hp'] at hpx hrx
        exact h.given i y g3 hrx hpx hlx
  apart i i' x x' hx hx' hne hrx hrx' hlx hlx' := by
    have key : ∀ (i : Nat) (x : Ent), ((dropV b hp).set b ⟨e.esz, e.ro, e.par, o⟩)[i]? = some x → x.ro = false → x.o.lv (ρ i) = true → ∃ y : Ent, hp[i]? = some y ∧ y.ro = false ∧ y.o.lv (ρ i) = true := by
      intro i x hx hrx hlx
      rcases set_get hx with ⟨g1, g2⟩ | ⟨g1, g2⟩
      · subst g1; exact ⟨e, hb, hr, hl⟩
      · obtain ⟨y, g3, g4⟩ := dropV_get g2
        subst g4
        split at hlx
        · cases hlx
        · rename_i hp'
          rw [if_neg hp'] at hrx
          exact ⟨y, g3, hrx, hlx⟩
    obtain ⟨y, q1, q2, q3⟩ := key i x hx hrx hlx
    obtain ⟨y', q1', q2', q3'⟩ := key i' x' hx' hrx' hlx'
    exact h.apart i i' y y' q1 q1' hne q2 q2' q3 q3'

/-- a block that is told no more -/
theorem HSat.dull {w0 : Base} {w : World} {ρ : Nat → Loc} {hp : Hp} (h : HSat w0 ρ hp w) {b : Nat} {e : Ent} (hb : hp[b]? = some e) (o : AObj) (ho : ¬ o.lv (ρ b) = true) :
    HSat w0 ρ ((dropV b hp).set b ⟨e.esz, e.ro, e.par, o⟩) w where
  size := h.size
  old := h.old
  tape := h.tape
  os := h.os
  out := h.out
  esz i x hx := by
    rcases set_get hx with ⟨g1, g2⟩ | ⟨g1, g2⟩
    · subst g1 g2; exact h.esz i e hb
    · obtain ⟨y, g3, g4⟩ := dropV_get g2
      have := h.esz i y g3
      subst g4; split <;> exact this
  obj i x hx := by
    simp only [List.length_set, dropV_length]
    rcases set_get hx with ⟨g1, g2⟩ | ⟨g1, g2⟩
    · subst g1 g2; exact obj_dead ho
    · obtain ⟨y, g3, g4⟩ := dropV_get g2
      subst g4
      split
      · trivial
      · exact h.obj i y g3
  own i x hx hrx hlx := by
    rcases set_get hx with ⟨g1, g2⟩ | ⟨g1, g2⟩
    · subst g1 g2; exact absurd hlx ho
    · obtain ⟨y, g3, g4⟩ := dropV_get g2
      subst g4
      split at hlx
      · cases hlx
      · rename_i hp'
        rw [if_neg hp'] at hrx
        exact h.own i y g3 hrx hlx
  views i x p hx hpx hlx := by
    rcases set_get hx with ⟨g1, g2⟩ | ⟨g1, g2⟩
    · subst g1 g2; exact absurd hlx ho
    · obtain ⟨y, g3, g4⟩ := dropV_get g2
      subst g4
      split at hlx
      · cases hlx
      · rename_i hp'
        rw [if_neg hp'] at hpx ⊢
        obtain ⟨q1, q2, e', q3, q4, q5⟩ := h.views i y p g3 hpx hlx
        have hpb : p ≠ b := fun g => hp' (by rw [hpx, g])
        refine ⟨q1, q2, e', ?_, q4, q5⟩
        rw [List.getElem?_set_ne (fun g => hpb g.symm)]
        simp only [dropV, List.getElem?_map, q3, Option.map_some]
        rw [if_neg]
        intro g
        exact absurd (h.views p e' b q3 g q5).1 (by rw [q4]; simp)
  given i x hx hrx hpx hlx := by
    rcases set_get hx with ⟨g1, g2⟩ | ⟨g1, g2⟩
    · subst g1 g2; exact absurd hlx ho
    · obtain ⟨y, g3, g4⟩ := dropV_get g2
      subst g4
      split at hlx
      · cases hlx
      · rename_i hp'
        rw [if_neg hp'] at hpx hrx
        exact h.given i y g3 hrx hpx hlx
  apart i i' x x' hx hx' hne hrx hrx' hlx hlx' := by
    have key : ∀ (i : Nat) (x : Ent), ((dropV b hp).set b ⟨e.esz, e.ro, e.par, o⟩)[i]? = some x → x.ro = false → x.o.lv (ρ i) = true → ∃ y : Ent, hp[i]? = some y ∧ y.ro = false ∧ y.o.lv (ρ i) = true := by
      intro i x hx hrx hlx
      rcases set_get hx with ⟨g1, g2⟩ | ⟨g1, g2⟩
      · subst g1; rw [g2] at hlx; exact absurd hlx ho
      · obtain ⟨y, g3, g4⟩ := dropV_get g2
        subst g4
        split at hlx
        · cases hlx
        · rename_i hp'
          rw [if_neg hp'] at hrx
          exact ⟨y, g3, hrx, hlx⟩
    obtain ⟨y, q1, q2, q3⟩ := key i x hx hrx hlx
    obtain ⟨y', q1', q2', q3'⟩ := key i' x' hx' hrx' hlx'
    exact h.apart i i' y y' q1 q1' hne q2 q2' q3 q3'

/-- what was cut out of a variable of ours -/
theorem HSat.view {w0 : Base} {w : World} {ρ : Nat → Loc} {hp : Hp} (h : HSat w0 ρ hp w) {b : Nat} {x : Ent} (hb : hp[b]? = some x) (hr : x.ro = false) (hl : x.o.lv (ρ b) = true) (e : Ent) (l : Loc)
    (hro : e.ro = true) (hpar : e.par = some b) (hesz : l.esz = e.esz) (hblk : l.blk = (ρ b).blk)
    (hobj : ObjOk (upd ρ hp.length l) (hp.length + 1) w l true e.o) : HSat w0 (upd ρ hp.length l) (hp ++ [e]) w := by
  have hlt : b < hp.length := by
    rcases Nat.lt_or_ge b hp.length with g | g
    · exact g
    · rw [List.getElem?_eq_none g] at hb; cases hb
  exact {
    size := h.size
    old := h.old
    tape := h.tape
    os := h.os
    out := h.out
    esz := fun i y hy => by
      rcases get_snoc hy with ⟨h1, h2⟩ | ⟨h1, h2⟩
      · rw [upd_lt h1]; exact h.esz i y h2
      · subst h1 h2; rw [upd_self]; exact hesz
    obj := fun i y hy => by
      rcases get_snoc hy with ⟨h1, h2⟩ | ⟨h1, h2⟩
      · rw [upd_lt h1]
        exact ObjOk_mono (by simp) (fun b hb => upd_lt hb) rfl (h.obj i y h2)
      · subst h1 h2; rw [upd_self, hro]; simpa using hobj
    own := fun i y hy hr' hl' => by
      rcases get_snoc hy with ⟨h1, h2⟩ | ⟨h1, h2⟩
      · rw [upd_lt h1] at hl' ⊢; exact h.own i y h2 hr' hl'
      · subst h2; rw [hro] at hr'; cases hr'
    views := fun i y p hy hp' hl' => by
      rcases get_snoc hy with ⟨h1, h2⟩ | ⟨h1, h2⟩
      · rw [upd_lt h1] at hl'
        obtain ⟨g1, g2, e', g3, g4⟩ := h.views i y p h2 hp' hl'
        have hlt' : p < hp.length := by
          rcases Nat.lt_or_ge p hp.length with g | g
          · exact g
          · rw [List.getElem?_eq_none g] at g3; cases g3
        refine ⟨g1, ?_, e', ?_, by rw [upd_lt hlt']; exact g4⟩
        · rw [upd_lt h1, upd_lt hlt']; exact g2
        · rw [List.getElem?_append_left hlt']; exact g3
      · subst h1 h2
        rw [hpar] at hp'
        cases hp'
        refine ⟨hro, ?_, x, ?_, hr, by rw [upd_lt hlt]; exact hl⟩
        · rw [upd_self, upd_lt hlt]; exact hblk
        · rw [List.getElem?_append_left hlt]; exact hb
    given := fun i y hy hr' hp' hl' => by
      rcases get_snoc hy with ⟨h1, h2⟩ | ⟨h1, h2⟩
      · rw [upd_lt h1] at hl' ⊢; exact h.given i y h2 hr' hp' hl'
      · subst h2; rw [hpar] at hp'; cases hp'
    apart := fun i i' y y' hy hy' hne hr' hr'' hl' hl'' => by
      rcases get_snoc hy with ⟨h1, h2⟩ | ⟨h1, h2⟩ <;> rcases get_snoc hy' with ⟨h1', h2'⟩ | ⟨h1', h2'⟩
      · rw [upd_lt h1] at hl' ⊢; rw [upd_lt h1'] at hl'' ⊢; exact h.apart i i' y y' h2 h2' hne hr' hr'' hl' hl''
      · subst h2'; rw [hro] at hr''; cases hr''
      · subst h2; rw [hro] at hr'; cases hr'
      · omega }

/-! ### the table of types -/
def tdOk : TD → TypeDesc → Prop
  | .int k, .int k' => k = k'
  | .bool, .bool => True
  | .str, .string => True
  | .ptr, .pointer _ => True
  | .slice e, .slice e' => e = e'
  | .array n e, .array n' e' => n = n' ∧ e = e'
  | .struct fs, .struct fields => fs = fields.toList.map fun f => (f.offset, f.type)
  | .map k e, .map k' e' => k = k' ∧ e = e'
  | .func, .func _ _ _ => True
  | _, _ => False

/-- the cells of a type's zero value -/
def ZOk (z : List AV) (cs : List Value) : Prop := (∀ ρ n, CAt ρ n (fun i => cs[i]?) z 0) ∧ cs.length = asz z

structure TOk (P : Program) (T : Tab) : Prop where
  ok : ∀ t i, T t = some i → ∃ info d zv, P.info? t = some info ∧ info.size = i.sz ∧ info.bytes = i.bys ∧ P.underlying t = some d ∧ tdOk i.d d ∧
    info.zero = some zv ∧ asz i.z = i.sz ∧ ZOk i.z zv.cells.toList ∧ (i.d.agg = false → i.sz = 1) ∧ (i.d.agg = true → ∃ cs, zv = .agg cs) ∧
    (∀ fields, d = .struct fields → ∀ f ∈ fields.toList, (P.info? f.type).isSome = true) ∧
    (i.eq = true → P.eqGuardType P.depth t = false ∧ ∀ fields, d = .struct fields → P.stoodInHeld t = false ∧ ∀ f ∈ fields.toList, f.name ≠ "_")

theorem td_some {T : Tab} {t : TypeId} {d : TD} (h : td T t = d) (hd : d ≠ .other) : ∃ i, T t = some i ∧ i.d = d := by
  unfold td at h
  cases e : T t with
  | none => rw [e] at h; exact absurd h.symm hd
  | some i => rw [e] at h; exact ⟨i, rfl, h⟩

section
variable {P : Program} {T : Tab} (hT : TOk P T)
include hT

theorem TOk.under {t : TypeId} {d : TD} (h : td T t = d) (hd : d ≠ .other) : ∃ d', P.underlying t = some d' ∧ tdOk d d' := by
  obtain ⟨i, h1, h2⟩ := td_some h hd
  obtain ⟨info, d', zv, _, _, _, g, g', _⟩ := hT.ok t i h1
  exact ⟨d', g, h2 ▸ g'⟩

theorem TOk.u_int {t : TypeId} {k : IntKind} (h : td T t = .int k) : P.underlying t = some (.int k) := by
  obtain ⟨d, h1, h2⟩ := hT.under h (by simp)
  cases d <;> simp_all [tdOk]
theorem TOk.u_bool {t : TypeId} (h : td T t = .bool) : P.underlying t = some .bool := by
  obtain ⟨d, h1, h2⟩ := hT.under h (by simp)
  cases d <;> simp_all [tdOk]
theorem TOk.u_str {t : TypeId} (h : td T t = .str) : P.underlying t = some .string := by
  obtain ⟨d, h1, h2⟩ := hT.under h (by simp)
  cases d <;> simp_all [tdOk]
theorem TOk.u_ptr {t : TypeId} (h : td T t = .ptr) : ∃ e, P.underlying t = some (.pointer e) := by
  obtain ⟨d, h1, h2⟩ := hT.under h (by simp)
  cases d <;> simp_all [tdOk]
theorem TOk.u_slice {t e : TypeId} (h : td T t = .slice e) : P.underlying t = some (.slice e) := by
  obtain ⟨d, h1, h2⟩ := hT.under h (by simp)
  cases d <;> simp_all [tdOk]
theorem TOk.u_array {t e : TypeId} {n : Nat} (h : td T t = .array n e) : P.underlying t = some (.array n e) := by
  obtain ⟨d, h1, h2⟩ := hT.under h (by simp)
  cases d <;> simp_all [tdOk]
theorem TOk.u_struct {t : TypeId} {fs : List (Nat × TypeId)} (h : td T t = .struct fs) : ∃ fields, P.underlying t = some (.struct fields) ∧ fs = fields.toList.map fun f => (f.offset, f.type) := by
  obtain ⟨d, h1, h2⟩ := hT.under h (by simp)
  cases d <;> simp_all [tdOk]

theorem TOk.size {t : TypeId} {i : TI} (h : T t = some i) (w : World) : (sizeOf t).run P w = .ok i.sz w := by
  obtain ⟨info, d, zv, h1, h2, _⟩ := hT.ok t i h
  simp [sizeOf, typeInfo, h1, h2]
theorem TOk.info {t : TypeId} {i : TI} (h : T t = some i) (w : World) : ∃ info, (typeInfo t).run P w = .ok info w ∧ info.size = i.sz ∧ info.bytes = i.bys := by
  obtain ⟨info, d, zv, h1, h2, h3, _⟩ := hT.ok t i h
  exact ⟨info, by simp [typeInfo, h1], h2, h3⟩
theorem TOk.agg {t : TypeId} {i : TI} (h : T t = some i) (w : World) : (isAgg t).run P w = .ok i.d.agg w := by
  obtain ⟨info, d, zv, h1, h2, h3, h4, h5, _⟩ := hT.ok t i h
  have := run_underlying h4 w
  simp only [isAgg, Sem.run_bind, this, Result.andThen_ok]
  cases hd : i.d <;> rw [hd] at h5 <;> cases d <;> simp_all [tdOk, TD.agg]
theorem TOk.zero {t : TypeId} {i : TI} (h : T t = some i) (w : World) : ∃ zv, (zeroValue t).run P w = .ok zv w ∧ ZOk i.z zv.cells.toList ∧ zv.cells.size = i.sz ∧ (i.d.agg = true → ∃ cs, zv = .agg cs) := by
  obtain ⟨info, d, zv, h1, h2, h3, h4, h5, h6, h7, h8, h9, h10, _⟩ := hT.ok t i h
  refine ⟨zv, by simp [zeroValue, typeInfo, h1, h6], h8, ?_, h10⟩
  have := h8.2
  rw [h7] at this
  simpa using this
end

end Go.Aw
