/-
  AwCh5: a chain's orphans, looked for by a function. Own work (printed by tools/ch5gen.py).
-/
import Derived.Test.YtdababcblhbpeaaAwCh4
set_option linter.unusedVariables false
set_option linter.unusedSimpArgs false
set_option maxRecDepth 20000
open Go.Proofs
namespace Go.Aw

abbrev orpAV (o : List Int × Hdr) : AV := .agg (AV.ints .u8 32 o.1 :: o.2.segs)
/-- the place of the first of which it holds; -1: there is none -/
def idxF (p : List Int × Hdr → Bool) : List (List Int × Hdr) → Option Nat
  | [] => none
  | o :: r => match p o with | true => some 0 | false => (idxF p r).map (· + 1)
@[irreducible] def idxI (p : List Int × Hdr → Bool) (l : List (List Int × Hdr)) : Int := match idxF p l with | some i => (i : Int) | none => -1
theorem idxF_some {p : List Int × Hdr → Bool} : ∀ {l : List (List Int × Hdr)} {i : Nat}, idxF p l = some i → ∃ o, l[i]? = some o ∧ p o = true
  | [], i, h => by cases h
  | o :: r, i, h => by
    simp only [idxF] at h
    cases hp : p o with
    | true => rw [hp] at h; cases h; exact ⟨o, rfl, hp⟩
    | false =>
      rw [hp] at h
      simp only [Option.map_eq_some_iff] at h
      obtain ⟨j, h1, rfl⟩ := h
      exact idxF_some (l := r) h1
theorem idxF_at {p : List Int × Hdr → Bool} : ∀ {l : List (List Int × Hdr)} {i : Nat} {o : List Int × Hdr}, (∀ j, j < i → ∀ x, l[j]? = some x → p x = false) → l[i]? = some o → p o = true → idxF p l = some i
  | [], i, o, h, h1, h2 => by simp at h1
  | a :: r, 0, o, h, h1, h2 => by
    simp only [List.getElem?_cons_zero, Option.some.injEq] at h1
    subst h1
    simp only [idxF, h2]
  | a :: r, i + 1, o, h, h1, h2 => by
    have ha := h 0 (by omega) a rfl
    simp only [List.getElem?_cons_succ] at h1
    have := idxF_at (l := r) (i := i) (fun j hj x hx => h (j + 1) (by omega) x hx) h1 h2
    simp only [idxF, ha, this, Option.map_some]
theorem idxF_none {p : List Int × Hdr → Bool} : ∀ {l : List (List Int × Hdr)}, (∀ (j : Nat) x, l[j]? = some x → p x = false) → idxF p l = none
  | [], h => rfl
  | a :: r, h => by
    have ha := h 0 a rfl
    have := idxF_none (l := r) (fun j x hx => h (j + 1) x hx)
    simp only [idxF, ha, this, Option.map_none]
theorem orp_at (l : List (List Int × Hdr)) (i : Nat) (o : List Int × Hdr) (h : l[i]? = some o) : (rowO l)[i]? = some (AV.ints .u8 32 o.1 :: o.2.segs) := by
  simp [rowO, h]

/-- is what an orphan stands on known? -/
@[irreducible] def prevKn (c : Ch) (o : List Int × Hdr) : Bool := (findK o.2.prev c.known).isSome
@[irreducible] def sameId (id : List Int) (o : List Int × Hdr) : Bool := decide (o.1 = id)

theorem adopts1_ok (c : Ch) (o : List Int × Hdr) (hp : o.2.prev.length = 32) :
    AC Try.prog 115 [orpAV o, .ptr 4 0 0 0] [c.varE true 1 2 3, c.mapE true, c.wayE true, c.orpE true, ⟨1, true, none, .var [.ptr 0 0 0 0]⟩] (fun r hp' => r = .bool (prevKn c o) ∧ hp' = [c.varE true 1 2 3, c.mapE true, c.wayE true, c.orpE true, ⟨1, true, none, .var [.ptr 0 0 0 0]⟩]) := by
  refine AC.left (AC.body tokT Try.func115 rfl rfl rfl (by decide) (by rfl) ?_)
  have hl := known_ok c o.2.prev hp
  rw [show (findK o.2.prev c.known).isSome = prevKn c o by unfold prevKn; rfl] at hl
  unfold Ch.varE Ch.mapE Ch.wayE Ch.orpE at hl ⊢
  refine AW.pre tokT (fun _ => true) ?_; (conv => whnf)
  refine ev_sound tokT (keep := fun _ => true) ?_
  (conv => whnf)
  refine AC.frame hl [0, 1, 2, 3] (by (repeat' (first | exact True.intro | exact rfl | refine And.intro ?_ ?_ | (simp [AV.ren, AV.rens, AObj.ren, Ent.ren, AV.inn, AV.inns, AObj.inn, *]; done)))) (by rfl) (by (repeat' (first | exact True.intro | refine And.intro ?_ ?_ | (simp [AV.ren, AV.rens, AObj.ren, Ent.ren, AV.inn, AV.inns, AObj.inn, *]; done)))) (by rfl) ?_
  rintro r0 hp0 ⟨rfl, rfl⟩
  (conv => whnf)
  (refine Left.of [0, 1, 2, 3, 4] (.bool (prevKn c o)) [c.varE true 1 2 3, c.mapE true, c.wayE true, c.orpE true, ⟨1, true, none, .var [.ptr 0 0 0 0]⟩] (by rfl) (by rfl) (by rfl) (by (repeat' (first | exact True.intro | exact rfl | refine And.intro ?_ ?_ | (simp [AV.ren, AV.rens, AObj.ren, Ent.ren, AV.inn, AV.inns, AObj.inn, *]; done)))) (by rfl) (by (repeat' (first | exact True.intro | exact rfl | refine And.intro ?_ ?_ | (simp [AV.ren, AV.rens, AObj.ren, Ent.ren, AV.inn, AV.inns, AObj.inn, *]; done)))) ?_)
  exact ⟨rfl, rfl⟩
theorem adds1_ok (c : Ch) (id : List Int) (o : List Int × Hdr) (hi : id.length = 32) :
    AC Try.prog 92 [orpAV o, .ptr 4 0 0 0] [c.varE true 1 2 3, c.mapE true, c.wayE true, c.orpE true, ⟨32, true, none, .var [.ints .u8 32 id]⟩] (fun r hp' => r = .bool (sameId id o) ∧ hp' = [c.varE true 1 2 3, c.mapE true, c.wayE true, c.orpE true, ⟨32, true, none, .var [.ints .u8 32 id]⟩]) := by
  refine AC.left (AC.body tokT Try.func92 rfl rfl rfl (by decide) (by rfl) ?_)
  unfold Ch.varE Ch.mapE Ch.wayE Ch.orpE
  refine AW.pre tokT (fun _ => true) ?_; (conv => whnf)
  refine ev_sound tokT (keep := fun _ => true) ?_
  (conv => whnf)
  rw [show (o.1 == id && true) = sameId id o by rw [Bool.and_true]; unfold sameId; exact Bool.eq_iff_iff.2 (by simp)]
  (refine Left.of [0, 1, 2, 3, 4] (.bool (sameId id o)) [c.varE true 1 2 3, c.mapE true, c.wayE true, c.orpE true, ⟨32, true, none, .var [.ints .u8 32 id]⟩] (by rfl) (by rfl) (by rfl) (by (repeat' (first | exact True.intro | exact rfl | refine And.intro ?_ ?_ | (simp [AV.ren, AV.rens, AObj.ren, Ent.ren, AV.inn, AV.inns, AObj.inn, *]; done)))) (by rfl) (by (repeat' (first | exact True.intro | exact rfl | refine And.intro ?_ ?_ | (simp [AV.ren, AV.rens, AObj.ren, Ent.ren, AV.inn, AV.inns, AObj.inn, *]; done)))) ?_)
  exact ⟨rfl, rfl⟩

theorem idxK_ok (c : Ch) (cap : Option Nat) (ho : ∀ o ∈ c.orphans, o.1.length = 32 ∧ o.2.wf) (hn : c.orphans.length ≤ 1000000) :
    AC Try.prog 113 [.sl 3 0 c.orphans.length cap, .fn 115 [.ptr 4 0 0 0]] [c.varE true 1 2 3, c.mapE true, c.wayE true, c.orpE true, ⟨1, true, none, .var [.ptr 0 0 0 0]⟩] (fun r hp' => r = .int .i64 (idxI (prevKn c) c.orphans) ∧ hp' = [c.varE true 1 2 3, c.mapE true, c.wayE true, c.orpE true, ⟨1, true, none, .var [.ptr 0 0 0 0]⟩]) := by
  refine AC.left (AC.body tokT Try.func113 rfl rfl rfl (by decide) (by rfl) ?_)
  have hF := fun o (h : o ∈ c.orphans) => adopts1_ok c o (ho o h).2.prev
  unfold Ch.varE Ch.mapE Ch.wayE Ch.orpE at hF ⊢
  refine AW.pre tokT (fun _ => true) ?_; (conv => whnf)
  refine AW.cutT (fun fr hp => fr = [] ∧ hp = [c.varE true 1 2 3, c.mapE true, c.wayE true, c.orpE true, ⟨1, true, none, .var [.ptr 0 0 0 0]⟩] ∧ idxF (prevKn c) c.orphans = none) ?_ ?_
  · refine AW.pre tokT (fun _ => true) ?_; (conv => whnf)
    refine AW.block ?_
    (refine AW.turnL [0, 1, 2, 3, 4] [(0, .sl 3 0 c.orphans.length cap), (1, .fn 115 [.ptr 4 0 0 0]), (7, .int .i64 (c.orphans.length : Int)), (8, .int .i64 0)] [c.varE true 1 2 3, c.mapE true, c.wayE true, c.orpE true, ⟨1, true, none, .var [.ptr 0 0 0 0]⟩] (by rfl) (by rfl) (by rfl) (by (repeat' (first | exact True.intro | exact rfl | refine And.intro ?_ ?_ | (simp [AV.ren, AV.rens, AObj.ren, Ent.ren, AV.inn, AV.inns, AObj.inn, *]; done)))) (by (repeat' (first | exact True.intro | exact rfl | refine And.intro ?_ ?_ | (simp [AV.ren, AV.rens, AObj.ren, Ent.ren, AV.inn, AV.inns, AObj.inn, *]; done)))) ?_)
    refine AW.loop (fun q fr hp => ∃ i : Nat, q = c.orphans.length - i ∧ i ≤ c.orphans.length ∧ (∀ j, j < i → ∀ x, c.orphans[j]? = some x → (prevKn c) x = false) ∧ fr = [(0, .sl 3 0 c.orphans.length cap), (1, .fn 115 [.ptr 4 0 0 0]), (7, .int .i64 (c.orphans.length : Int)), (8, .int .i64 (i : Int))] ∧ hp = [c.varE true 1 2 3, c.mapE true, c.wayE true, c.orpE true, ⟨1, true, none, .var [.ptr 0 0 0 0]⟩]) c.orphans.length ?_ ?_
    · exact ⟨0, by omega, by omega, fun j hj => absurd hj (by omega), rfl, rfl⟩
    · rintro q fr hp ⟨i, rfl, hi, hno, rfl, rfl⟩ -
      refine AW.post ?_
      refine ev_sound tokT (keep := fun _ => true) ?_
      (conv => whnf); (cases hlt : (decide ((↑i : Int) < (↑c.orphans.length : Int)) : Bool) <;> (try simp only [beq_iff_eq, beq_eq_false_iff_ne, ne_eq, decide_eq_true_eq, decide_eq_false_iff_not, bne_iff_ne, bne_eq_false_iff_eq, Bool.not_eq_true, Bool.not_eq_false, gt_iff_lt, ge_iff_le] at hlt) <;> (try (exfalso; omega)))
      case' false =>
        (conv => whnf)
        (refine Turned.of [0, 1, 2, 3, 4] [] [c.varE true 1 2 3, c.mapE true, c.wayE true, c.orpE true, ⟨1, true, none, .var [.ptr 0 0 0 0]⟩] (by rfl) (by rfl) (by rfl) (by (repeat' (first | exact True.intro | exact rfl | refine And.intro ?_ ?_ | (simp [AV.ren, AV.rens, AObj.ren, Ent.ren, AV.inn, AV.inns, AObj.inn, *]; done)))) (by (repeat' (first | exact True.intro | exact rfl | refine And.intro ?_ ?_ | (simp [AV.ren, AV.rens, AObj.ren, Ent.ren, AV.inn, AV.inns, AObj.inn, *]; done)))) ?_)
        refine ⟨rfl, rfl, idxF_none fun j x hx => ?_⟩
        refine hno j ?_ x hx
        have := (List.getElem?_eq_some_iff.1 hx).1
        omega
      have hx := List.getElem?_eq_getElem (l := c.orphans) (i := i) (by omega)
      obtain ⟨o, hoe⟩ : ∃ o, c.orphans[i] = o := ⟨_, rfl⟩
      rw [hoe] at hx
      have hom : o ∈ c.orphans := List.mem_of_getElem? hx
      have e2 : (rowO c.orphans)[0 + ((i : Nat) : Int).toNat]? = some (AV.ints .u8 32 o.1 :: o.2.segs) := by
        rw [Nat.zero_add, Int.toNat_natCast]; exact orp_at _ _ _ hx
      ((conv => whnf); (repeat (((refine And.intro (by first | assumption | omega) ?_); (conv => whnf)))))
      rw [e2]
      (conv => whnf)
      refine AC.frame (hF o hom) [0, 1, 2, 3, 4] (by (repeat' (first | exact True.intro | exact rfl | refine And.intro ?_ ?_ | (simp [AV.ren, AV.rens, AObj.ren, Ent.ren, AV.inn, AV.inns, AObj.inn, *]; done)))) (by rfl) (by (repeat' (first | exact True.intro | refine And.intro ?_ ?_ | (simp [AV.ren, AV.rens, AObj.ren, Ent.ren, AV.inn, AV.inns, AObj.inn, *]; done)))) (by rfl) ?_
      rintro r0 hp0 ⟨rfl, rfl⟩
      obtain ⟨b, hb⟩ : ∃ b, (prevKn c) o = b := ⟨_, rfl⟩
      rw [hb]
      cases b with
      | true =>
        have hI : idxI (prevKn c) c.orphans = (i : Int) := by unfold idxI; rw [idxF_at hno hx hb]
        (conv => whnf)
        rw [hI]
        (refine Left.of [0, 1, 2, 3, 4] (.int .i64 (i : Int)) [c.varE true 1 2 3, c.mapE true, c.wayE true, c.orpE true, ⟨1, true, none, .var [.ptr 0 0 0 0]⟩] (by rfl) (by rfl) (by rfl) (by (repeat' (first | exact True.intro | exact rfl | refine And.intro ?_ ?_ | (simp [AV.ren, AV.rens, AObj.ren, Ent.ren, AV.inn, AV.inns, AObj.inn, *]; done)))) (by rfl) (by (repeat' (first | exact True.intro | exact rfl | refine And.intro ?_ ?_ | (simp [AV.ren, AV.rens, AObj.ren, Ent.ren, AV.inn, AV.inns, AObj.inn, *]; done)))) ?_)
        exact ⟨rfl, rfl⟩
      | false =>
        (conv => whnf)
        rw [IntWalk.i64_in ((i : Int) + 1) (by omega)]
        (refine Turned.of [0, 1, 2, 3, 4] [(0, .sl 3 0 c.orphans.length cap), (1, .fn 115 [.ptr 4 0 0 0]), (7, .int .i64 (c.orphans.length : Int)), (8, .int .i64 ((i : Int) + 1))] [c.varE true 1 2 3, c.mapE true, c.wayE true, c.orpE true, ⟨1, true, none, .var [.ptr 0 0 0 0]⟩] (by rfl) (by rfl) (by rfl) (by (repeat' (first | exact True.intro | exact rfl | refine And.intro ?_ ?_ | (simp [AV.ren, AV.rens, AObj.ren, Ent.ren, AV.inn, AV.inns, AObj.inn, *]; done)))) (by (repeat' (first | exact True.intro | exact rfl | refine And.intro ?_ ?_ | (simp [AV.ren, AV.rens, AObj.ren, Ent.ren, AV.inn, AV.inns, AObj.inn, *]; done)))) ?_)
        refine ⟨c.orphans.length - (i + 1), by omega, i + 1, rfl, by omega, fun j hj x hjx => ?_, rfl, rfl⟩
        rcases Nat.lt_succ_iff_lt_or_eq.1 hj with q | q
        · exact hno j q x hjx
        · subst q
          rw [hx] at hjx
          cases hjx
          exact hb
  · rintro fr hp ⟨rfl, rfl, hnone⟩
    have hI : idxI (prevKn c) c.orphans = -1 := by unfold idxI; rw [hnone]
    refine ev_sound tokT (keep := fun _ => true) ?_
    (conv => whnf)
    rw [hI]
    (refine Left.of [0, 1, 2, 3, 4] (.int .i64 (-1)) [c.varE true 1 2 3, c.mapE true, c.wayE true, c.orpE true, ⟨1, true, none, .var [.ptr 0 0 0 0]⟩] (by rfl) (by rfl) (by rfl) (by (repeat' (first | exact True.intro | exact rfl | refine And.intro ?_ ?_ | (simp [AV.ren, AV.rens, AObj.ren, Ent.ren, AV.inn, AV.inns, AObj.inn, *]; done)))) (by rfl) (by (repeat' (first | exact True.intro | exact rfl | refine And.intro ?_ ?_ | (simp [AV.ren, AV.rens, AObj.ren, Ent.ren, AV.inn, AV.inns, AObj.inn, *]; done)))) ?_)
    exact ⟨rfl, rfl⟩

theorem idxS_ok (c : Ch) (id : List Int) (hi : id.length = 32) (cap : Option Nat) (ho : ∀ o ∈ c.orphans, o.1.length = 32 ∧ o.2.wf) (hn : c.orphans.length ≤ 1000000) :
    AC Try.prog 113 [.sl 3 0 c.orphans.length cap, .fn 92 [.ptr 4 0 0 0]] [c.varE true 1 2 3, c.mapE true, c.wayE true, c.orpE true, ⟨32, true, none, .var [.ints .u8 32 id]⟩] (fun r hp' => r = .int .i64 (idxI (sameId id) c.orphans) ∧ hp' = [c.varE true 1 2 3, c.mapE true, c.wayE true, c.orpE true, ⟨32, true, none, .var [.ints .u8 32 id]⟩]) := by
  refine AC.left (AC.body tokT Try.func113 rfl rfl rfl (by decide) (by rfl) ?_)
  have hF := fun o (h : o ∈ c.orphans) => adds1_ok c id o hi
  unfold Ch.varE Ch.mapE Ch.wayE Ch.orpE at hF ⊢
  refine AW.pre tokT (fun _ => true) ?_; (conv => whnf)
  refine AW.cutT (fun fr hp => fr = [] ∧ hp = [c.varE true 1 2 3, c.mapE true, c.wayE true, c.orpE true, ⟨32, true, none, .var [.ints .u8 32 id]⟩] ∧ idxF (sameId id) c.orphans = none) ?_ ?_
  · refine AW.pre tokT (fun _ => true) ?_; (conv => whnf)
    refine AW.block ?_
    (refine AW.turnL [0, 1, 2, 3, 4] [(0, .sl 3 0 c.orphans.length cap), (1, .fn 92 [.ptr 4 0 0 0]), (7, .int .i64 (c.orphans.length : Int)), (8, .int .i64 0)] [c.varE true 1 2 3, c.mapE true, c.wayE true, c.orpE true, ⟨32, true, none, .var [.ints .u8 32 id]⟩] (by rfl) (by rfl) (by rfl) (by (repeat' (first | exact True.intro | exact rfl | refine And.intro ?_ ?_ | (simp [AV.ren, AV.rens, AObj.ren, Ent.ren, AV.inn, AV.inns, AObj.inn, *]; done)))) (by (repeat' (first | exact True.intro | exact rfl | refine And.intro ?_ ?_ | (simp [AV.ren, AV.rens, AObj.ren, Ent.ren, AV.inn, AV.inns, AObj.inn, *]; done)))) ?_)
    refine AW.loop (fun q fr hp => ∃ i : Nat, q = c.orphans.length - i ∧ i ≤ c.orphans.length ∧ (∀ j, j < i → ∀ x, c.orphans[j]? = some x → (sameId id) x = false) ∧ fr = [(0, .sl 3 0 c.orphans.length cap), (1, .fn 92 [.ptr 4 0 0 0]), (7, .int .i64 (c.orphans.length : Int)), (8, .int .i64 (i : Int))] ∧ hp = [c.varE true 1 2 3, c.mapE true, c.wayE true, c.orpE true, ⟨32, true, none, .var [.ints .u8 32 id]⟩]) c.orphans.length ?_ ?_
    · exact ⟨0, by omega, by omega, fun j hj => absurd hj (by omega), rfl, rfl⟩
    · rintro q fr hp ⟨i, rfl, hi, hno, rfl, rfl⟩ -
      refine AW.post ?_
      refine ev_sound tokT (keep := fun _ => true) ?_
      (conv => whnf); (cases hlt : (decide ((↑i : Int) < (↑c.orphans.length : Int)) : Bool) <;> (try simp only [beq_iff_eq, beq_eq_false_iff_ne, ne_eq, decide_eq_true_eq, decide_eq_false_iff_not, bne_iff_ne, bne_eq_false_iff_eq, Bool.not_eq_true, Bool.not_eq_false, gt_iff_lt, ge_iff_le] at hlt) <;> (try (exfalso; omega)))
      case' false =>
        (conv => whnf)
        (refine Turned.of [0, 1, 2, 3, 4] [] [c.varE true 1 2 3, c.mapE true, c.wayE true, c.orpE true, ⟨32, true, none, .var [.ints .u8 32 id]⟩] (by rfl) (by rfl) (by rfl) (by (repeat' (first | exact True.intro | exact rfl | refine And.intro ?_ ?_ | (simp [AV.ren, AV.rens, AObj.ren, Ent.ren, AV.inn, AV.inns, AObj.inn, *]; done)))) (by (repeat' (first | exact True.intro | exact rfl | refine And.intro ?_ ?_ | (simp [AV.ren, AV.rens, AObj.ren, Ent.ren, AV.inn, AV.inns, AObj.inn, *]; done)))) ?_)
        refine ⟨rfl, rfl, idxF_none fun j x hx => ?_⟩
        refine hno j ?_ x hx
        have := (List.getElem?_eq_some_iff.1 hx).1
        omega
      have hx := List.getElem?_eq_getElem (l := c.orphans) (i := i) (by omega)
      obtain ⟨o, hoe⟩ : ∃ o, c.orphans[i] = o := ⟨_, rfl⟩
      rw [hoe] at hx
      have hom : o ∈ c.orphans := List.mem_of_getElem? hx
      have e2 : (rowO c.orphans)[0 + ((i : Nat) : Int).toNat]? = some (AV.ints .u8 32 o.1 :: o.2.segs) := by
        rw [Nat.zero_add, Int.toNat_natCast]; exact orp_at _ _ _ hx
      ((conv => whnf); (repeat (((refine And.intro (by first | assumption | omega) ?_); (conv => whnf)))))
      rw [e2]
      (conv => whnf)
      refine AC.frame (hF o hom) [0, 1, 2, 3, 4] (by (repeat' (first | exact True.intro | exact rfl | refine And.intro ?_ ?_ | (simp [AV.ren, AV.rens, AObj.ren, Ent.ren, AV.inn, AV.inns, AObj.inn, *]; done)))) (by rfl) (by (repeat' (first | exact True.intro | refine And.intro ?_ ?_ | (simp [AV.ren, AV.rens, AObj.ren, Ent.ren, AV.inn, AV.inns, AObj.inn, *]; done)))) (by rfl) ?_
      rintro r0 hp0 ⟨rfl, rfl⟩
      obtain ⟨b, hb⟩ : ∃ b, (sameId id) o = b := ⟨_, rfl⟩
      rw [hb]
      cases b with
      | true =>
        have hI : idxI (sameId id) c.orphans = (i : Int) := by unfold idxI; rw [idxF_at hno hx hb]
        (conv => whnf)
        rw [hI]
        (refine Left.of [0, 1, 2, 3, 4] (.int .i64 (i : Int)) [c.varE true 1 2 3, c.mapE true, c.wayE true, c.orpE true, ⟨32, true, none, .var [.ints .u8 32 id]⟩] (by rfl) (by rfl) (by rfl) (by (repeat' (first | exact True.intro | exact rfl | refine And.intro ?_ ?_ | (simp [AV.ren, AV.rens, AObj.ren, Ent.ren, AV.inn, AV.inns, AObj.inn, *]; done)))) (by rfl) (by (repeat' (first | exact True.intro | exact rfl | refine And.intro ?_ ?_ | (simp [AV.ren, AV.rens, AObj.ren, Ent.ren, AV.inn, AV.inns, AObj.inn, *]; done)))) ?_)
        exact ⟨rfl, rfl⟩
      | false =>
        (conv => whnf)
        rw [IntWalk.i64_in ((i : Int) + 1) (by omega)]
        (refine Turned.of [0, 1, 2, 3, 4] [(0, .sl 3 0 c.orphans.length cap), (1, .fn 92 [.ptr 4 0 0 0]), (7, .int .i64 (c.orphans.length : Int)), (8, .int .i64 ((i : Int) + 1))] [c.varE true 1 2 3, c.mapE true, c.wayE true, c.orpE true, ⟨32, true, none, .var [.ints .u8 32 id]⟩] (by rfl) (by rfl) (by rfl) (by (repeat' (first | exact True.intro | exact rfl | refine And.intro ?_ ?_ | (simp [AV.ren, AV.rens, AObj.ren, Ent.ren, AV.inn, AV.inns, AObj.inn, *]; done)))) (by (repeat' (first | exact True.intro | exact rfl | refine And.intro ?_ ?_ | (simp [AV.ren, AV.rens, AObj.ren, Ent.ren, AV.inn, AV.inns, AObj.inn, *]; done)))) ?_)
        refine ⟨c.orphans.length - (i + 1), by omega, i + 1, rfl, by omega, fun j hj x hjx => ?_, rfl, rfl⟩
        rcases Nat.lt_succ_iff_lt_or_eq.1 hj with q | q
        · exact hno j q x hjx
        · subst q
          rw [hx] at hjx
          cases hjx
          exact hb
  · rintro fr hp ⟨rfl, rfl, hnone⟩
    have hI : idxI (sameId id) c.orphans = -1 := by unfold idxI; rw [hnone]
    refine ev_sound tokT (keep := fun _ => true) ?_
    (conv => whnf)
    rw [hI]
    (refine Left.of [0, 1, 2, 3, 4] (.int .i64 (-1)) [c.varE true 1 2 3, c.mapE true, c.wayE true, c.orpE true, ⟨32, true, none, .var [.ints .u8 32 id]⟩] (by rfl) (by rfl) (by rfl) (by (repeat' (first | exact True.intro | exact rfl | refine And.intro ?_ ?_ | (simp [AV.ren, AV.rens, AObj.ren, Ent.ren, AV.inn, AV.inns, AObj.inn, *]; done)))) (by rfl) (by (repeat' (first | exact True.intro | exact rfl | refine And.intro ?_ ?_ | (simp [AV.ren, AV.rens, AObj.ren, Ent.ren, AV.inn, AV.inns, AObj.inn, *]; done)))) ?_)
    exact ⟨rfl, rfl⟩

/-- does such a header wait? -/
@[irreducible] def waitsB (c : Ch) (id : List Int) : Bool := decide (idxI (sameId id) c.orphans ≥ 0)
theorem contains_ok (c : Ch) (id : List Int) (hi : id.length = 32) (cap : Option Nat) (ho : ∀ o ∈ c.orphans, o.1.length = 32 ∧ o.2.wf) (hn : c.orphans.length ≤ 1000000) :
    AC Try.prog 91 [.sl 3 0 c.orphans.length cap, .fn 92 [.ptr 4 0 0 0]] [c.varE true 1 2 3, c.mapE true, c.wayE true, c.orpE true, ⟨32, true, none, .var [.ints .u8 32 id]⟩] (fun r hp' => r = .bool (waitsB c id) ∧ hp' = [c.varE true 1 2 3, c.mapE true, c.wayE true, c.orpE true, ⟨32, true, none, .var [.ints .u8 32 id]⟩]) := by
  refine AC.left (AC.body tokT Try.func91 rfl rfl rfl (by decide) (by rfl) ?_)
  have hF := idxS_ok c id hi cap ho hn
  unfold Ch.varE Ch.mapE Ch.wayE Ch.orpE at hF ⊢
  refine AW.pre tokT (fun _ => true) ?_; (conv => whnf)
  refine ev_sound tokT (keep := fun _ => true) ?_
  (conv => whnf)
  refine AC.frame hF [0, 1, 2, 3, 4] (by (repeat' (first | exact True.intro | exact rfl | refine And.intro ?_ ?_ | (simp [AV.ren, AV.rens, AObj.ren, Ent.ren, AV.inn, AV.inns, AObj.inn, *]; done)))) (by rfl) (by (repeat' (first | exact True.intro | refine And.intro ?_ ?_ | (simp [AV.ren, AV.rens, AObj.ren, Ent.ren, AV.inn, AV.inns, AObj.inn, *]; done)))) (by rfl) ?_
  rintro r0 hp0 ⟨rfl, rfl⟩
  (conv => whnf)
  rw [show decide (idxI (sameId id) c.orphans ≥ 0) = waitsB c id by unfold waitsB; rfl]
  (refine Left.of [0, 1, 2, 3, 4] (.bool (waitsB c id)) [c.varE true 1 2 3, c.mapE true, c.wayE true, c.orpE true, ⟨32, true, none, .var [.ints .u8 32 id]⟩] (by rfl) (by rfl) (by rfl) (by (repeat' (first | exact True.intro | exact rfl | refine And.intro ?_ ?_ | (simp [AV.ren, AV.rens, AObj.ren, Ent.ren, AV.inn, AV.inns, AObj.inn, *]; done)))) (by rfl) (by (repeat' (first | exact True.intro | exact rfl | refine And.intro ?_ ?_ | (simp [AV.ren, AV.rens, AObj.ren, Ent.ren, AV.inn, AV.inns, AObj.inn, *]; done)))) ?_)
  exact ⟨rfl, rfl⟩
end Go.Aw
