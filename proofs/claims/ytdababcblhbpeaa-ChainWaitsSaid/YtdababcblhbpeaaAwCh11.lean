/-
  AwCh11: the way to the best header, and what leads there. Own work.
-/
import Derived.Test.YtdababcblhbpeaaAwCh10
set_option linter.unusedVariables false
set_option linter.unusedSimpArgs false
set_option maxRecDepth 20000
open Go.Proofs
namespace Go.Aw

structure Ev where
  kind : Int
  id : List Int
  height : Int
  deriving Inhabited
abbrev Ev.segs (e : Ev) : List AV := [.int .i64 e.kind, .ints .u8 32 e.id, .int .i64 e.height]
def rowE (l : List Ev) : List (List AV) := l.map Ev.segs
theorem rowE_rens (σ : Nat → Nat) (l : List Ev) : (rowE l).map (AV.rens σ) = rowE l := by
  simp [rowE, AV.rens, AV.ren, Function.comp_def]
@[simp] theorem all_rowE (n : Nat) (l : List Ev) : (∀ x, x ∈ rowE l → AV.inns n x) ↔ True := by
  refine iff_true_intro fun x hx => ?_
  obtain ⟨y, _, rfl⟩ := List.mem_map.1 hx
  simp [AV.inns, AV.inn]
attribute [simp] rowE_rens
@[simp] theorem rowE_length (l : List Ev) : (rowE l).length = l.length := by simp [rowE]
@[simp] theorem rowH_length (l : List (List Int)) : (rowH l).length = l.length := by simp [rowH]
@[simp] theorem rowO_length (l : List (List Int × Hdr)) : (rowO l).length = l.length := by simp [rowO]
theorem rowH_snoc (l : List (List Int)) (n : Nat) (id : List Int) (h : n = l.length) : (List.drop 0 (rowH l)).take n ++ List.take 1 (List.drop 0 [(AV.agg [AV.ints .u8 32 id]).segs]) = rowH (l ++ [id]) := by
  subst h
  rw [List.drop_zero, List.take_of_length_le (by simp)]; simp [rowH, AV.segs]
theorem rowE_snoc (l : List Ev) (n : Nat) (e : Ev) (h : n = l.length) : (List.drop 0 (rowE l)).take n ++ List.take 1 (List.drop 0 [(AV.agg e.segs).segs]) = rowE (l ++ [e]) := by
  subst h
  rw [List.drop_zero, List.take_of_length_le (by simp)]; simp [rowE, AV.segs]
theorem rowH_take (l : List (List Int)) (n : Nat) : (rowH l).take n = rowH (l.take n) := by simp [rowH, List.map_take]

def prevOf (c : Ch) (id : List Int) : List Int := ((findK id c.known).getD zeroK).prev
def hgtOf (c : Ch) (id : List Int) : Int := ((findK id c.known).getD zeroK).height
/-- from a header down to the chain: those that are not on it, and the first that is -/
def climb : Nat → Ch → List Int → List (List Int) × List Int
  | 0, c, id => ([], id)
  | n + 1, c, id => match onB c id with
    | true => ([], id)
    | false => (id :: (climb n c (prevOf c id)).1, (climb n c (prevOf c id)).2)
def evDown (way : List (List Int)) (f : Nat) : Nat → List Ev
  | 0 => []
  | n + 1 => ⟨2, way.getD (f + n + 1) [], ((f + n + 1 : Nat) : Int)⟩ :: evDown way f n
def evUp : List (List Int) → Nat → List Ev
  | [], _ => []
  | x :: r, n => ⟨1, x, (n : Int)⟩ :: evUp r (n + 1)
theorem evUp_length : ∀ (l : List (List Int)) (n : Nat), (evUp l n).length = l.length
  | [], n => rfl
  | x :: r, n => by simp [evUp, evUp_length r]
theorem evUp_snoc (x : List Int) : ∀ (l : List (List Int)) (n : Nat), evUp (l ++ [x]) n = evUp l n ++ [⟨1, x, ((n + l.length : Nat) : Int)⟩]
  | [], n => by simp [evUp]
  | y :: r, n => by simp only [List.cons_append, evUp, evUp_snoc x r (n + 1), List.length_cons]; rw [show n + 1 + r.length = n + (r.length + 1) by omega]
@[irreducible] def Ch.ups (c : Ch) : List (List Int) := (climb ((hgtOf c c.best).toNat + 1) c c.best).1
@[irreducible] def Ch.forkId (c : Ch) : List Int := (climb ((hgtOf c c.best).toNat + 1) c c.best).2
@[irreducible] def Ch.fork (c : Ch) : Nat := (hgtOf c c.forkId).toNat
@[irreducible] def Ch.stops (c : Ch) : Bool := decide ((c.way.length : Int) - 1 - c.fork > c.k)
def movesC (c : Ch) : Ch := match c.stops with
  | true => { c with halted := true }
  | false => { c with way := c.way.take (c.fork + 1) ++ c.ups.reverse }
def movesE (c : Ch) : List Ev := match c.stops with
  | true => []
  | false => evDown c.way c.fork (c.way.length - 1 - c.fork) ++ evUp c.ups.reverse (c.fork + 1)
def movesN (c : Ch) : Int := match c.stops with | true => 9 | false => 0

theorem onB_iff {c : Ch} {N : Nat} (hc : KOk c N) {id : List Int} : onB c id = true ↔ ∃ x, findK id c.known = some x ∧ c.way[x.height.toNat]? = some id := by
  unfold onB
  cases h : findK id c.known with
  | none => simp [onX]
  | some x =>
    obtain ⟨b, hb⟩ := findK_mem h
    have hx := (hc.hts _ hb).1
    have hw := hc.way.1
    simp only [] at hx
    simp only [onX, Bool.and_eq_true, decide_eq_true_eq, Option.some.injEq, exists_eq_left']
    constructor
    · rintro ⟨h1, h2⟩
      have h3 := List.getElem?_eq_getElem (l := c.way) (i := x.height.toNat) (by omega)
      rw [h3]
      simp [h3] at h2
      rw [h2]
    · intro h1
      have h3 := (List.getElem?_eq_some_iff.1 h1).1
      exact ⟨by omega, by simp [h1]⟩
/-- a header that is not on the chain stands on another -/
theorem Tree.off {c : Ch} {N : Nat} (t : Tree c) (hc : KOk c N) {id : List Int} {x : KH} (h : findK id c.known = some x) (ho : onB c id = false) : 0 < x.height ∧ ∃ p, findK x.prev c.known = some p ∧ p.height + 1 = x.height ∧ p.work < x.work := by
  obtain ⟨b, hb⟩ := findK_mem h
  have hx := (hc.hts _ hb).1
  have hpos : 0 < x.height := by
    rcases Int.lt_or_eq_of_le hx with g | g
    · exact g
    · exfalso
      have := t.zero _ hb g.symm
      have h2 : onB c id = true := (onB_iff hc).2 ⟨x, h, by rw [← g]; exact this⟩
      rw [ho] at h2; cases h2
  exact ⟨hpos, t.prev _ hb hpos⟩
/-- what the climb finds -/
structure Climbs (c : Ch) (id : List Int) (up : List (List Int)) (fk : List Int) : Prop where
  on : onB c fk = true
  hgt : ∃ y, findK fk c.known = some y ∧ ∃ x, findK id c.known = some x ∧ x.height = y.height + up.length
  step : ∀ (j : Nat) x, up.reverse[j]? = some x → ∃ y, findK x c.known = some y ∧ y.height = hgtOf c fk + 1 + j ∧ onB c x = false ∧
    ((j = 0 ∧ y.prev = fk) ∨ (0 < j ∧ up.reverse[j - 1]? = some y.prev))
  last : (up = [] ∧ fk = id) ∨ up.reverse[up.length - 1]? = some id
theorem climb_ok {c : Ch} {N : Nat} (t : Tree c) (hc : KOk c N) : ∀ (n : Nat) (id : List Int) (x : KH), findK id c.known = some x → x.height.toNat < n → Climbs c id (climb n c id).1 (climb n c id).2
  | 0, id, x, h, hn => absurd hn (by omega)
  | n + 1, id, x, h, hn => by
    simp only [climb]
    cases ho : onB c id with
    | true => exact ⟨ho, ⟨x, h, x, h, by simp⟩, by simp, .inl ⟨rfl, rfl⟩⟩
    | false =>
      obtain ⟨hpos, p, hp, hph, hpw⟩ := t.off hc h ho
      have hpr : prevOf c id = x.prev := by unfold prevOf; rw [h]; rfl
      rw [hpr]
      have ih := climb_ok t hc n x.prev p hp (by omega)
      obtain ⟨up, hup⟩ : ∃ up, (climb n c x.prev).1 = up := ⟨_, rfl⟩
      obtain ⟨fk, hfk⟩ : ∃ fk, (climb n c x.prev).2 = fk := ⟨_, rfl⟩
      rw [hup, hfk] at ih
      simp only [hup, hfk]
      obtain ⟨y, hy, x', hx', hxy⟩ := ih.hgt
      rw [hp] at hx'; cases hx'
      have hfh : hgtOf c fk = y.height := by unfold hgtOf; rw [hy]; rfl
      refine ⟨ih.on, ⟨y, hy, x, h, by simp only [List.length_cons]; omega⟩, ?_, .inr ?_⟩
      · intro j z hz
        rw [List.reverse_cons, List.getElem?_append] at hz
        split at hz
        · rename_i hj
          obtain ⟨q, q1, q2, q3, q4⟩ := ih.step j z hz
          refine ⟨q, q1, q2, q3, ?_⟩
          rcases q4 with q4 | ⟨q4, q5⟩
          · exact .inl q4
          · refine .inr ⟨q4, ?_⟩
            rw [List.reverse_cons, List.getElem?_append_left (by omega)]; exact q5
        · rename_i hj
          have hj0 : j - up.reverse.length = 0 := by
            rcases Nat.eq_zero_or_pos (j - up.reverse.length) with g | g
            · exact g
            · rw [List.getElem?_eq_none (by simp only [List.length_cons, List.length_nil]; omega)] at hz; cases hz
          rw [hj0] at hz
          simp only [List.getElem?_cons_zero, Option.some.injEq] at hz
          subst hz
          have hjl : j = up.length := by rw [List.length_reverse] at hj hj0; omega
          subst hjl
          refine ⟨x, h, by rw [hfh]; omega, ho, ?_⟩
          rcases ih.last with ⟨l1, l2⟩ | l1
          · left; rw [l1]; exact ⟨rfl, l2.symm⟩
          · right
            have hlt := (List.getElem?_eq_some_iff.1 l1).1
            rw [List.length_reverse] at hlt
            refine ⟨by omega, ?_⟩
            rw [List.reverse_cons, List.getElem?_append_left (by rw [List.length_reverse]; omega)]
            exact l1
      · rw [List.reverse_cons, List.length_cons, List.getElem?_append_right (by simp)]
        simp
theorem ups_ok {c : Ch} {N : Nat} (t : Tree c) (hc : KOk c N) : Climbs c c.best c.ups c.forkId := by
  obtain ⟨x, hx, _⟩ := t.best_in hc.way.1
  have := climb_ok t hc ((hgtOf c c.best).toNat + 1) c.best x hx (by unfold hgtOf; rw [hx]; simp)
  unfold Ch.ups Ch.forkId
  exact this
/-- where the chain forks -/
theorem fork_ok {c : Ch} {N : Nat} (t : Tree c) (hc : KOk c N) : c.fork < c.way.length ∧ hgtOf c c.forkId = (c.fork : Int) ∧ c.way[c.fork]? = some c.forkId := by
  obtain ⟨x, hx, hw⟩ := (onB_iff hc).1 (ups_ok t hc).on
  obtain ⟨b, hb⟩ := findK_mem hx
  have hx0 := (hc.hts _ hb).1
  have hh : hgtOf c c.forkId = x.height := by unfold hgtOf; rw [hx]; rfl
  have hf : c.fork = x.height.toNat := by unfold Ch.fork; rw [hh]
  simp only [] at hx0
  exact ⟨by rw [hf]; exact (List.getElem?_eq_some_iff.1 hw).1, by rw [hh, hf]; omega, by rw [hf]; exact hw⟩
end Go.Aw
