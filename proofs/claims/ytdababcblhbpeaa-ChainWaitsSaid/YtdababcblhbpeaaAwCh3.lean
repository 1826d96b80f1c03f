/-
  AwCh3: a chain, and what only looks at it. Own work.
-/
import Derived.Test.YtdababcblhbpeaaM7
import Derived.Test.YtdababcblhbpeaaM10
set_option linter.unusedVariables false
set_option linter.unusedSimpArgs false
set_option maxRecDepth 20000
open Go.Proofs
namespace Go.Aw

structure KH where
  prev : List Int
  height : Int
  work : Int
  came : Int
  deriving Inhabited
abbrev KH.av (x : KH) : AV := .agg [.ints .u8 32 x.prev, .int .i64 x.height, .int .i64 x.work, .int .i64 x.came]
def zeroK : KH := ⟨List.replicate 32 0, 0, 0, 0⟩
structure Ch where
  k : Int
  most : Int
  known : List (Nat × List Int × KH)
  clock : Nat
  way : List (List Int)
  orphans : List (List Int × Hdr)
  came : Int
  halted : Bool
  deriving Inhabited
def knM (l : List (Nat × List Int × KH)) : List (Nat × List Int × AV) := l.map fun e => (e.1, e.2.1, e.2.2.av)
def rowH (l : List (List Int)) : List (List AV) := l.map fun x => [AV.ints .u8 32 x]
def rowO (l : List (List Int × Hdr)) : List (List AV) := l.map fun o => AV.ints .u8 32 o.1 :: o.2.segs
/-- a chain's variable, its map, its way, its orphans lie in the blocks told -/
def Ch.varE (c : Ch) (ro : Bool) (m w o : Nat) : Ent := ⟨7, ro, none, .var [.int .i64 c.k, .int .i64 c.most, .mp m, .sl w 0 c.way.length none, .sl o 0 c.orphans.length none, .int .i64 c.came, .bool c.halted]⟩
def Ch.mapE (c : Ch) (ro : Bool) : Ent := ⟨0, ro, none, .map .u8 32 (knM c.known) c.clock⟩
def Ch.wayE (c : Ch) (ro : Bool) : Ent := ⟨32, ro, none, .row (rowH c.way)⟩
def Ch.orpE (c : Ch) (ro : Bool) : Ent := ⟨98, ro, none, .row (rowO c.orphans)⟩

attribute [simp] Ch.varE Ch.mapE Ch.wayE Ch.orpE
theorem rowH_rens (σ : Nat → Nat) (l : List (List Int)) : (rowH l).map (AV.rens σ) = rowH l := by
  simp [rowH, AV.rens, AV.ren, Function.comp_def]
theorem rowO_rens (σ : Nat → Nat) (l : List (List Int × Hdr)) : (rowO l).map (AV.rens σ) = rowO l := by
  simp [rowO, AV.rens, AV.ren, Function.comp_def]
theorem knM_rens (σ : Nat → Nat) (l : List (Nat × List Int × KH)) : ((knM l).map fun e => (e.1, e.2.1, AV.ren σ e.2.2)) = knM l := by
  simp [knM, AV.rens, AV.ren, Function.comp_def]
attribute [simp] rowH_rens rowO_rens knM_rens
@[simp] theorem all_rowH (n : Nat) (l : List (List Int)) : (∀ x, x ∈ rowH l → AV.inns n x) ↔ True := by
  refine iff_true_intro fun x hx => ?_
  obtain ⟨y, _, rfl⟩ := List.mem_map.1 hx
  exact ⟨trivial, trivial⟩
@[simp] theorem all_rowO (n : Nat) (l : List (List Int × Hdr)) : (∀ x, x ∈ rowO l → AV.inns n x) ↔ True := by
  refine iff_true_intro fun x hx => ?_
  obtain ⟨y, _, rfl⟩ := List.mem_map.1 hx
  simp [AV.inns, AV.inn]
@[simp] theorem all_knM (n : Nat) (l : List (Nat × List Int × KH)) : (∀ (a : Nat) (a1 : List Int) (b : AV), (a, a1, b) ∈ knM l → AV.inn n b) ↔ True := by
  refine iff_true_intro fun a a1 b hx => ?_
  obtain ⟨y, _, e⟩ := List.mem_map.1 hx
  cases e
  simp [AV.inns, AV.inn]

/-- what is known under a hash -/
def findK (id : List Int) : List (Nat × List Int × KH) → Option KH
  | [] => none
  | e :: r => if id = e.2.1 then some e.2.2 else findK id r
theorem findM_knM (id : List Int) : ∀ l, findM id (knM l) = none ∧ findK id l = none ∨ ∃ b x, findM id (knM l) = some (b, id, KH.av x) ∧ findK id l = some x
  | [] => .inl ⟨rfl, rfl⟩
  | e :: r => by
    simp only [knM, List.map_cons, findM, findK]
    by_cases q : id = e.2.1
    · rw [if_pos q, show (id == e.2.1) = true by simpa using q]
      exact .inr ⟨e.1, e.2.2, by rw [q], rfl⟩
    · rw [if_neg q, show (id == e.2.1) = false by simpa using q]
      exact findM_knM id r

theorem height_ok (c : Ch) (hw : c.way.length ≤ 1000000) :
    AC Try.prog 97 [.ptr 0 0 0 0] [c.varE true 1 2 3, c.mapE true, c.wayE true, c.orpE true] (fun r hp' => r = .int .i64 ((c.way.length : Int) - 1) ∧ hp' = [c.varE true 1 2 3, c.mapE true, c.wayE true, c.orpE true]) := by
  unfold Ch.varE Ch.mapE Ch.wayE Ch.orpE
  refine AC.left (AC.body tokT Try.func97 rfl rfl rfl (by decide) (by rfl) ?_)
  refine AW.pre tokT (fun _ => true) ?_; (conv => whnf)
  refine ev_sound tokT (keep := fun _ => true) ?_
  (conv => whnf)
  rw [IntWalk.i64_in ((c.way.length : Int) - 1) (by omega)]
  (refine Left.of [0, 1, 2, 3] (.int .i64 ((c.way.length : Int) - 1)) [c.varE true 1 2 3, c.mapE true, c.wayE true, c.orpE true] (by rfl) (by rfl) (by rfl) (by (repeat' (first | exact True.intro | exact rfl | refine And.intro ?_ ?_ | (simp [AV.ren, AV.rens, AObj.ren, Ent.ren, AV.inn, AV.inns, AObj.inn, *]; done)))) (by rfl) (by (repeat' (first | exact True.intro | exact rfl | refine And.intro ?_ ?_ | (simp [AV.ren, AV.rens, AObj.ren, Ent.ren, AV.inn, AV.inns, AObj.inn, *]; done)))) ?_)
  exact ⟨rfl, rfl⟩

theorem look_ok (c : Ch) (id : List Int) (hid : id.length = 32) :
    AC Try.prog 98 [.ptr 0 0 0 0, .agg [.ints .u8 32 id]] [c.varE true 1 2 3, c.mapE true, c.wayE true, c.orpE true] (fun r hp' => r = .tup [((findK id c.known).getD zeroK).av, .bool (findK id c.known).isSome] ∧ hp' = [c.varE true 1 2 3, c.mapE true, c.wayE true, c.orpE true]) := by
  unfold Ch.varE Ch.mapE Ch.wayE Ch.orpE
  refine AC.left (AC.body tokT Try.func98 rfl rfl rfl (by decide) (by rfl) ?_)
  refine AW.pre tokT (fun _ => true) ?_; (conv => whnf)
  refine AW.pre tokT (fun _ => true) ?_; (conv => whnf)
  refine AW.seq (AW.drawT ((.pure 0 (.pure 1 (.pure 2 (.pure 3 (.pure 4 (.pure 5 (.pure 6 (.pure 7 (.pure 8 (.one 9 (.pure 10 .fin)))))))))))) (keep := fun _ => true) mixed_okC tokT (by kernel_rfl) (by kernel_rfl) ?_)
  ((conv => whnf); (repeat (((refine Exists.intro _ (And.intro (by ((conv => whnf); (repeat ((refine And.intro (by exact rfl) ?_); (conv => whnf))))) ?_)); (conv => whnf)))))
  refine Exists.intro (.tup [((findK id c.known).getD zeroK).av, .bool (findK id c.known).isSome]) (And.intro (by (conv => whnf); rcases findM_knM id c.known with ⟨g1, g2⟩ | ⟨b, x, g1, g2⟩ <;> rw [g1, g2] <;> exact ⟨rfl, rfl⟩) ?_)
  ((conv => whnf); (repeat (first | ((with_reducible (refine And.intro (show Go.Aw.againsK _ _ _ _ _ from ?_) ?_)); (focus (repeat' (first | ((with_reducible (show Go.Aw.againsK _ _ _ _ _)); (conv => whnf)) | ((with_reducible (show Go.Aw.againK _ _ _ _ _)); (conv => whnf)) | (with_reducible (exact True.intro)) | (with_reducible (refine And.intro ?_ ?_)) | exact rfl))); (conv => whnf)) | ((refine Exists.intro _ (And.intro (by ((conv => whnf); (repeat ((refine And.intro (by exact rfl) ?_); (conv => whnf))))) ?_)); (conv => whnf)))))
  refine ev_sound tokT (keep := fun _ => true) ?_
  (conv => whnf)
  (refine Left.of [0, 1, 2, 3] (.tup [((findK id c.known).getD zeroK).av, .bool (findK id c.known).isSome]) [c.varE true 1 2 3, c.mapE true, c.wayE true, c.orpE true] (by rfl) (by rfl) (by rfl) (by (repeat' (first | exact True.intro | exact rfl | refine And.intro ?_ ?_ | (simp [AV.ren, AV.rens, AObj.ren, Ent.ren, AV.inn, AV.inns, AObj.inn, *]; done)))) (by rfl) (by (repeat' (first | exact True.intro | exact rfl | refine And.intro ?_ ?_ | (simp [AV.ren, AV.rens, AObj.ren, Ent.ren, AV.inn, AV.inns, AObj.inn, *]; done)))) ?_)
  exact ⟨rfl, rfl⟩

theorem known_ok (c : Ch) (id : List Int) (hid : id.length = 32) :
    AC Try.prog 64 [.ptr 0 0 0 0, .agg [.ints .u8 32 id]] [c.varE true 1 2 3, c.mapE true, c.wayE true, c.orpE true] (fun r hp' => r = .bool (findK id c.known).isSome ∧ hp' = [c.varE true 1 2 3, c.mapE true, c.wayE true, c.orpE true]) := by
  refine AC.left (AC.body tokT Try.func64 rfl rfl rfl (by decide) (by rfl) ?_)
  have hl := look_ok c id hid
  unfold Ch.varE Ch.mapE Ch.wayE Ch.orpE at hl ⊢
  refine AW.pre tokT (fun _ => true) ?_; (conv => whnf)
  refine AW.pre tokT (fun _ => true) ?_; (conv => whnf)
  refine AC.frame hl [0, 1, 2, 3] (by (repeat' (first | exact True.intro | exact rfl | refine And.intro ?_ ?_ | (simp [AV.ren, AV.rens, AObj.ren, Ent.ren, AV.inn, AV.inns, AObj.inn, *]; done)))) (by rfl) (by (repeat' (first | exact True.intro | refine And.intro ?_ ?_ | (simp [AV.ren, AV.rens, AObj.ren, Ent.ren, AV.inn, AV.inns, AObj.inn, *]; done)))) (by rfl) ?_
  rintro r0 hp0 ⟨rfl, rfl⟩
  (conv => whnf)
  refine ev_sound tokT (keep := fun _ => true) ?_
  (conv => whnf)
  (refine Left.of [0, 1, 2, 3] (.bool (findK id c.known).isSome) [c.varE true 1 2 3, c.mapE true, c.wayE true, c.orpE true] (by rfl) (by rfl) (by rfl) (by (repeat' (first | exact True.intro | exact rfl | refine And.intro ?_ ?_ | (simp [AV.ren, AV.rens, AObj.ren, Ent.ren, AV.inn, AV.inns, AObj.inn, *]; done)))) (by rfl) (by (repeat' (first | exact True.intro | exact rfl | refine And.intro ?_ ?_ | (simp [AV.ren, AV.rens, AObj.ren, Ent.ren, AV.inn, AV.inns, AObj.inn, *]; done)))) ?_)
  exact ⟨rfl, rfl⟩
/-- the tip -/
def Ch.tip (c : Ch) : List Int := c.way.getD (c.way.length - 1) []
theorem tip_ok (c : Ch) (h0 : 0 < c.way.length) (hw : c.way.length ≤ 1000000) (hl : ∀ x ∈ c.way, x.length = 32) :
    AC Try.prog 62 [.ptr 0 0 0 0] [c.varE true 1 2 3, c.mapE true, c.wayE true, c.orpE true] (fun r hp' => r = .tup [.agg [.ints .u8 32 c.tip], .int .i64 ((c.way.length : Int) - 1)] ∧ hp' = [c.varE true 1 2 3, c.mapE true, c.wayE true, c.orpE true]) := by
  refine AC.left (AC.body tokT Try.func62 rfl rfl rfl (by decide) (by rfl) ?_)
  have hh := height_ok c hw
  unfold Ch.varE Ch.mapE Ch.wayE Ch.orpE at hh ⊢
  refine AW.pre tokT (fun _ => true) ?_; (conv => whnf)
  refine AW.pre tokT (fun _ => true) ?_; (conv => whnf)
  rw [show ((c.way.length : Int) == 0) = false from beq_eq_false_iff_ne.2 (by omega)]
  (conv => whnf)
  have e1 : ((c.way.length : Int) - 1).toNat = c.way.length - 1 := by omega
  have e2 : (rowH c.way)[0 + ((c.way.length : Int) - 1).toNat]? = some [.ints .u8 32 c.tip] := by
    have := List.getElem?_eq_getElem (l := c.way) (i := c.way.length - 1) (by omega)
    rw [Nat.zero_add, e1]
    simp [rowH, Ch.tip, this]
  refine AW.seq (AW.drawT (.pure 0 (.pure 1 (.pure 2 (.pure 3 (.pure 4 (.pure 8 (.one 5 (.pure 6 (.pure 7 (.one 9 (.one 10 (.pure 11 .fin)))))))))))) (keep := fun _ => true) mixed_okC tokT (by kernel_rfl) (by kernel_rfl) ?_)
  ((conv => whnf); (repeat (((refine Exists.intro _ (And.intro (by ((conv => whnf); (repeat ((refine And.intro (by exact rfl) ?_); (conv => whnf))))) ?_)); (conv => whnf)))))
  refine AC.frame hh [0, 1, 2, 3] (by (repeat' (first | exact True.intro | exact rfl | refine And.intro ?_ ?_ | (simp [AV.ren, AV.rens, AObj.ren, Ent.ren, AV.inn, AV.inns, AObj.inn, *]; done)))) (by rfl) (by (repeat' (first | exact True.intro | refine And.intro ?_ ?_ | (simp [AV.ren, AV.rens, AObj.ren, Ent.ren, AV.inn, AV.inns, AObj.inn, *]; done)))) (by rfl) ?_
  rintro r0 hp0 ⟨rfl, rfl⟩
  ((conv => whnf); (repeat (first | ((with_reducible (refine And.intro (show Go.Aw.againsK _ _ _ _ _ from ?_) ?_)); (focus (repeat' (first | ((with_reducible (show Go.Aw.againsK _ _ _ _ _)); (conv => whnf)) | ((with_reducible (show Go.Aw.againK _ _ _ _ _)); (conv => whnf)) | (with_reducible (exact True.intro)) | (with_reducible (refine And.intro ?_ ?_)) | exact rfl))); (conv => whnf)) | ((refine Exists.intro _ (And.intro (by ((conv => whnf); (repeat ((refine And.intro (by first | exact rfl | omega) ?_); (conv => whnf))))) ?_)); (conv => whnf)))))
  refine Exists.intro (.agg [.ints .u8 32 c.tip]) (And.intro (by (conv => whnf); rw [e2]; exact ⟨rfl, rfl⟩) ?_)
  (conv => whnf)
  refine AC.frame hh [0, 1, 2, 3] (by (repeat' (first | exact True.intro | exact rfl | refine And.intro ?_ ?_ | (simp [AV.ren, AV.rens, AObj.ren, Ent.ren, AV.inn, AV.inns, AObj.inn, *]; done)))) (by rfl) (by (repeat' (first | exact True.intro | refine And.intro ?_ ?_ | (simp [AV.ren, AV.rens, AObj.ren, Ent.ren, AV.inn, AV.inns, AObj.inn, *]; done)))) (by rfl) ?_
  rintro r0 hp0 ⟨rfl, rfl⟩
  ((conv => whnf); (repeat (((with_reducible (refine And.intro (show Go.Aw.againsK _ _ _ _ _ from ?_) ?_)); (focus (repeat' (first | ((with_reducible (show Go.Aw.againsK _ _ _ _ _)); (conv => whnf)) | ((with_reducible (show Go.Aw.againK _ _ _ _ _)); (conv => whnf)) | (with_reducible (exact True.intro)) | (with_reducible (refine And.intro ?_ ?_)) | exact rfl | omega))); (conv => whnf)))))
  · rw [e2]; exact ⟨rfl, rfl⟩
  ((conv => whnf); (repeat (first | ((with_reducible (refine And.intro (show Go.Aw.againsK _ _ _ _ _ from ?_) ?_)); (focus (repeat' (first | ((with_reducible (show Go.Aw.againsK _ _ _ _ _)); (conv => whnf)) | (with_reducible (exact True.intro))))); (conv => whnf)) | ((refine Exists.intro _ (And.intro (by ((conv => whnf); (repeat ((refine And.intro (by exact rfl) ?_); (conv => whnf))))) ?_)); (conv => whnf)))))
  refine ev_sound tokT (keep := fun _ => true) ?_
  (conv => whnf)
  (refine Left.of [0, 1, 2, 3] (.tup [.agg [.ints .u8 32 c.tip], .int .i64 ((c.way.length : Int) - 1)]) [c.varE true 1 2 3, c.mapE true, c.wayE true, c.orpE true] (by rfl) (by rfl) (by rfl) (by (repeat' (first | exact True.intro | exact rfl | refine And.intro ?_ ?_ | (simp [AV.ren, AV.rens, AObj.ren, Ent.ren, AV.inn, AV.inns, AObj.inn, *]; done)))) (by rfl) (by (repeat' (first | exact True.intro | exact rfl | refine And.intro ?_ ?_ | (simp [AV.ren, AV.rens, AObj.ren, Ent.ren, AV.inn, AV.inns, AObj.inn, *]; done)))) ?_)
  exact ⟨rfl, rfl⟩
/-- the hash at a place of the way -/
theorem way_at (c : Ch) (i : Nat) (hi : i < c.way.length) : (rowH c.way)[i]? = some [.ints .u8 32 (c.way.getD i [])] := by
  have := List.getElem?_eq_getElem (l := c.way) (i := i) hi
  simp [rowH, this]
theorem halted_ok (c : Ch) (h0 : 0 < c.way.length) :
    AC Try.prog 63 [.ptr 0 0 0 0] [c.varE true 1 2 3, c.mapE true, c.wayE true, c.orpE true] (fun r hp' => r = .bool c.halted ∧ hp' = [c.varE true 1 2 3, c.mapE true, c.wayE true, c.orpE true]) := by
  refine AC.left (AC.body tokT Try.func63 rfl rfl rfl (by decide) (by rfl) ?_)
  unfold Ch.varE Ch.mapE Ch.wayE Ch.orpE
  refine AW.pre tokT (fun _ => true) ?_; (conv => whnf)
  refine ev_sound tokT (keep := fun _ => true) ?_
  (conv => whnf)
  (cases g : (c.halted : Bool) <;> (try simp only [beq_iff_eq, beq_eq_false_iff_ne, ne_eq, decide_eq_true_eq, decide_eq_false_iff_not, bne_iff_ne, bne_eq_false_iff_eq, Bool.not_eq_true, Bool.not_eq_false, gt_iff_lt, ge_iff_le] at g) <;> (try (exfalso; omega)))
  case' true =>
    (conv => whnf)
    (refine Left.of [0, 1, 2, 3] (.bool true) [Ch.varE { c with halted := true } true 1 2 3, c.mapE true, c.wayE true, c.orpE true] (by rfl) (by rfl) (by rfl) (by (repeat' (first | exact True.intro | exact rfl | refine And.intro ?_ ?_ | (simp [AV.ren, AV.rens, AObj.ren, Ent.ren, AV.inn, AV.inns, AObj.inn, *]; done)))) (by rfl) (by (repeat' (first | exact True.intro | exact rfl | refine And.intro ?_ ?_ | (simp [AV.ren, AV.rens, AObj.ren, Ent.ren, AV.inn, AV.inns, AObj.inn, *]; done)))) ?_)
    exact ⟨rfl, rfl⟩
  (conv => whnf)
  rw [show ((c.way.length : Int) == 0) = false from beq_eq_false_iff_ne.2 (by omega)]
  (refine Left.of [0, 1, 2, 3] (.bool false) [Ch.varE { c with halted := false } true 1 2 3, c.mapE true, c.wayE true, c.orpE true] (by rfl) (by rfl) (by rfl) (by (repeat' (first | exact True.intro | exact rfl | refine And.intro ?_ ?_ | (simp [AV.ren, AV.rens, AObj.ren, Ent.ren, AV.inn, AV.inns, AObj.inn, *]; done)))) (by rfl) (by (repeat' (first | exact True.intro | exact rfl | refine And.intro ?_ ?_ | (simp [AV.ren, AV.rens, AObj.ren, Ent.ren, AV.inn, AV.inns, AObj.inn, *]; done)))) ?_)
  exact ⟨rfl, rfl⟩
theorem deep_ok (c : Ch) (n : Int) (hw : c.way.length ≤ 1000000) (hk : 0 ≤ c.k ∧ c.k ≤ 1000000) :
    AC Try.prog 114 [.ptr 0 0 0 0, .int .i64 n] [c.varE true 1 2 3, c.mapE true, c.wayE true, c.orpE true] (fun r hp' => r = .bool (decide (n < (c.way.length : Int) - 1 - c.k)) ∧ hp' = [c.varE true 1 2 3, c.mapE true, c.wayE true, c.orpE true]) := by
  refine AC.left (AC.body tokT Try.func114 rfl rfl rfl (by decide) (by rfl) ?_)
  have hh := height_ok c hw
  unfold Ch.varE Ch.mapE Ch.wayE Ch.orpE at hh ⊢
  refine AW.pre tokT (fun _ => true) ?_; (conv => whnf)
  refine AW.seq (AW.drawT (.pure 0 (.pure 1 (.pure 3 (.pure 4 (.pure 5 (.pure 6 (.one 2 (.pure 7 (.pure 8 (.pure 9 .fin)))))))))) (keep := fun _ => true) mixed_okC tokT (by kernel_rfl) (by kernel_rfl) ?_)
  ((conv => whnf); (repeat (((refine Exists.intro _ (And.intro (by ((conv => whnf); (repeat ((refine And.intro (by exact rfl) ?_); (conv => whnf))))) ?_)); (conv => whnf)))))
  refine AC.frame hh [0, 1, 2, 3] (by (repeat' (first | exact True.intro | exact rfl | refine And.intro ?_ ?_ | (simp [AV.ren, AV.rens, AObj.ren, Ent.ren, AV.inn, AV.inns, AObj.inn, *]; done)))) (by rfl) (by (repeat' (first | exact True.intro | refine And.intro ?_ ?_ | (simp [AV.ren, AV.rens, AObj.ren, Ent.ren, AV.inn, AV.inns, AObj.inn, *]; done)))) (by rfl) ?_
  rintro r0 hp0 ⟨rfl, rfl⟩
  ((conv => whnf); (repeat (first | ((with_reducible (refine And.intro (show Go.Aw.againsK _ _ _ _ _ from ?_) ?_)); (focus (repeat' (first | ((with_reducible (show Go.Aw.againsK _ _ _ _ _)); (conv => whnf)) | ((with_reducible (show Go.Aw.againK _ _ _ _ _)); (conv => whnf)) | (with_reducible (exact True.intro)) | (with_reducible (refine And.intro ?_ ?_)) | exact rfl))); (conv => whnf)) | ((refine Exists.intro _ (And.intro (by ((conv => whnf); (repeat ((refine And.intro (by exact rfl) ?_); (conv => whnf))))) ?_)); (conv => whnf)))))
  rw [IntWalk.i64_in ((c.way.length : Int) - 1 - c.k) (by omega)]
  refine ev_sound tokT (keep := fun _ => true) ?_
  (conv => whnf)
  (refine Left.of [0, 1, 2, 3] (.bool (decide (n < (c.way.length : Int) - 1 - c.k))) [c.varE true 1 2 3, c.mapE true, c.wayE true, c.orpE true] (by rfl) (by rfl) (by rfl) (by (repeat' (first | exact True.intro | exact rfl | refine And.intro ?_ ?_ | (simp [AV.ren, AV.rens, AObj.ren, Ent.ren, AV.inn, AV.inns, AObj.inn, *]; done)))) (by rfl) (by (repeat' (first | exact True.intro | exact rfl | refine And.intro ?_ ?_ | (simp [AV.ren, AV.rens, AObj.ren, Ent.ren, AV.inn, AV.inns, AObj.inn, *]; done)))) ?_)
  exact ⟨rfl, rfl⟩
/-- what is known lies within bounds -/
structure KOk (c : Ch) (N : Nat) : Prop where
  hk : 0 ≤ c.k ∧ c.k ≤ 1000000
  way : 0 < c.way.length ∧ (c.way.length : Int) ≤ c.came + 1
  lens : ∀ x ∈ c.way, x.length = 32
  ids : ∀ e ∈ c.known, e.2.1.length = 32
  prevs : ∀ e ∈ c.known, e.2.2.prev.length = 32
  hts : ∀ e ∈ c.known, 0 ≤ e.2.2.height ∧ e.2.2.height ≤ c.came
  works : ∀ e ∈ c.known, 0 ≤ e.2.2.work ∧ e.2.2.work ≤ (c.came + 1) * 1099511627776
  orps : ∀ o ∈ c.orphans, o.1.length = 32 ∧ o.2.wf
  owrk : ∀ o ∈ c.orphans, 0 ≤ o.2.work ∧ o.2.work ≤ 1099511627776
  sum : 0 ≤ c.came ∧ c.came + c.orphans.length ≤ N ∧ N ≤ 100000
theorem KOk.wayn {c : Ch} {N : Nat} (h : KOk c N) : c.way.length ≤ 1000000 := by
  have h1 := h.way; have h2 := h.sum; omega
theorem KOk.orpn {c : Ch} {N : Nat} (h : KOk c N) : c.orphans.length ≤ 1000000 := by
  have h2 := h.sum; omega
theorem findK_mem {id : List Int} {x : KH} : ∀ {l : List (Nat × List Int × KH)}, findK id l = some x → ∃ b, (b, id, x) ∈ l
  | [], h => by cases h
  | e :: r, h => by
    simp only [findK] at h
    split at h
    · rename_i q
      cases h
      exact ⟨e.1, by rw [q]; exact .head _⟩
    · obtain ⟨b, hb⟩ := findK_mem h
      exact ⟨b, .tail _ hb⟩
/-- is a header on the chain? -/
def onX (way : List (List Int)) (id : List Int) : Option KH → Bool
  | some h => decide (h.height ≤ (way.length : Int) - 1) && decide (way.getD h.height.toNat [] = id)
  | none => false
@[irreducible] def onB (c : Ch) (id : List Int) : Bool := onX c.way id (findK id c.known)
theorem on_ok (c : Ch) (id : List Int) (hid : id.length = 32) {N : Nat} (hc : KOk c N) :
    AC Try.prog 118 [.ptr 0 0 0 0, .agg [.ints .u8 32 id]] [c.varE true 1 2 3, c.mapE true, c.wayE true, c.orpE true] (fun r hp' => r = .bool (onB c id) ∧ hp' = [c.varE true 1 2 3, c.mapE true, c.wayE true, c.orpE true]) := by
  refine AC.left (AC.body tokT Try.func118 rfl rfl rfl (by decide) (by rfl) ?_)
  have hh := height_ok c hc.wayn
  unfold Ch.varE Ch.mapE Ch.wayE Ch.orpE at hh ⊢
  refine AW.pre tokT (fun _ => true) ?_; (conv => whnf)
  refine AW.seq (AW.drawT (.pure 0 (.pure 1 (.pure 2 (.pure 3 (.pure 4 (.pure 5 (.pure 6 (.pure 7 (.pure 8 (.one 9 (.one 10 (.pure 11 .fin)))))))))))) (keep := fun _ => true) mixed_okC tokT (by kernel_rfl) (by kernel_rfl) ?_)
  ((conv => whnf); (repeat (((refine Exists.intro _ (And.intro (by ((conv => whnf); (repeat ((refine And.intro (by exact rfl) ?_); (conv => whnf))))) ?_)); (conv => whnf)))))
  refine Exists.intro (.tup [((findK id c.known).getD zeroK).av, .bool (findK id c.known).isSome]) (And.intro (by (conv => whnf); rcases findM_knM id c.known with ⟨g1, g2⟩ | ⟨b, x, g1, g2⟩ <;> rw [g1, g2] <;> exact ⟨rfl, rfl⟩) ?_)
  ((conv => whnf); (repeat (first | ((with_reducible (refine And.intro (show Go.Aw.againsK _ _ _ _ _ from ?_) ?_)); (focus (repeat' (first | ((with_reducible (show Go.Aw.againsK _ _ _ _ _)); (conv => whnf)) | ((with_reducible (show Go.Aw.againK _ _ _ _ _)); (conv => whnf)) | (with_reducible (exact True.intro)) | (with_reducible (refine And.intro ?_ ?_)) | exact rfl))); (conv => whnf)) | ((refine Exists.intro _ (And.intro (by ((conv => whnf); (repeat ((refine And.intro (by exact rfl) ?_); (conv => whnf))))) ?_)); (conv => whnf)))))
  · rcases findM_knM id c.known with ⟨g1, g2⟩ | ⟨b, x, g1, g2⟩ <;> rw [g1, g2] <;> exact ⟨rfl, rfl⟩
  ((conv => whnf); (repeat (first | ((with_reducible (refine And.intro (show Go.Aw.againsK _ _ _ _ _ from ?_) ?_)); (focus (repeat' (first | ((with_reducible (show Go.Aw.againsK _ _ _ _ _)); (conv => whnf)) | ((with_reducible (show Go.Aw.againK _ _ _ _ _)); (conv => whnf)) | (with_reducible (exact True.intro)) | (with_reducible (refine And.intro ?_ ?_)) | exact rfl))); (conv => whnf)) | ((refine Exists.intro _ (And.intro (by ((conv => whnf); (repeat ((refine And.intro (by exact rfl) ?_); (conv => whnf))))) ?_)); (conv => whnf)))))
  obtain ⟨o, ho⟩ : ∃ o, findK id c.known = o := ⟨_, rfl⟩
  have hon : onB c id = onX c.way id o := by unfold onB; rw [ho]
  rw [hon, ho]
  refine AW.seq (AW.drawT (.pure 0 (.pure 1 (.pure 2 (.pure 3 (.pure 4 (.one 5 (.pure 6 (.pure 7 (.pure 8 (.pure 9 (.pure 10 (.pure 11 (.pure 12 (.pure 13 (.pure 14 (.pure 15 (.pure 16 (.pure 17 (.pure 18 (.pure 19 (.pure 20 .fin))))))))))))))))))))) (keep := fun _ => true) mixed_okC tokT (by kernel_rfl) (by kernel_rfl) ?_)
  cases o with
  | none =>
    simp only [onX]
    ((conv => whnf); (repeat (first | ((with_reducible (refine And.intro (show Go.Aw.againsK _ _ _ _ _ from ?_) ?_)); (focus (repeat' (first | ((with_reducible (show Go.Aw.againsK _ _ _ _ _)); (conv => whnf)) | ((with_reducible (show Go.Aw.againK _ _ _ _ _)); (conv => whnf)) | (with_reducible (exact True.intro)) | (with_reducible (refine And.intro ?_ ?_)) | exact rfl))); (conv => whnf)) | ((refine Exists.intro _ (And.intro (by ((conv => whnf); (repeat ((refine And.intro (by exact rfl) ?_); (conv => whnf))))) ?_)); (conv => whnf)))))
    refine ev_sound tokT (keep := fun _ => true) ?_
    (conv => whnf)
    (refine Left.of [0, 1, 2, 3] (.bool false) [c.varE true 1 2 3, c.mapE true, c.wayE true, c.orpE true] (by rfl) (by rfl) (by rfl) (by (repeat' (first | exact True.intro | exact rfl | refine And.intro ?_ ?_ | (simp [AV.ren, AV.rens, AObj.ren, Ent.ren, AV.inn, AV.inns, AObj.inn, *]; done)))) (by rfl) (by (repeat' (first | exact True.intro | exact rfl | refine And.intro ?_ ?_ | (simp [AV.ren, AV.rens, AObj.ren, Ent.ren, AV.inn, AV.inns, AObj.inn, *]; done)))) ?_)
    exact ⟨rfl, rfl⟩
  | some x =>
    obtain ⟨b, hb⟩ := findK_mem ho
    have hx := hc.hts _ hb
    simp only [] at hx
    have hsum := hc.sum
    simp only [Option.getD_some, Option.isSome_some, onX]
    ((conv => whnf); (repeat (((refine Exists.intro _ (And.intro (by ((conv => whnf); (repeat ((refine And.intro (by exact rfl) ?_); (conv => whnf))))) ?_)); (conv => whnf)))))
    refine AC.frame hh [0, 1, 2, 3] (by (repeat' (first | exact True.intro | exact rfl | refine And.intro ?_ ?_ | (simp [AV.ren, AV.rens, AObj.ren, Ent.ren, AV.inn, AV.inns, AObj.inn, *]; done)))) (by rfl) (by (repeat' (first | exact True.intro | refine And.intro ?_ ?_ | (simp [AV.ren, AV.rens, AObj.ren, Ent.ren, AV.inn, AV.inns, AObj.inn, *]; done)))) (by rfl) ?_
    rintro r0 hp0 ⟨rfl, rfl⟩
    ((conv => whnf); (repeat (first | ((with_reducible (refine And.intro (show Go.Aw.againsK _ _ _ _ _ from ?_) ?_)); (focus (repeat' (first | ((with_reducible (show Go.Aw.againsK _ _ _ _ _)); (conv => whnf)) | ((with_reducible (show Go.Aw.againK _ _ _ _ _)); (conv => whnf)) | (with_reducible (exact True.intro)) | (with_reducible (refine And.intro ?_ ?_)) | exact rfl))); (conv => whnf)) | ((refine Exists.intro _ (And.intro (by ((conv => whnf); (repeat ((refine And.intro (by exact rfl) ?_); (conv => whnf))))) ?_)); (conv => whnf)))))
    by_cases h1 : x.height ≤ (c.way.length : Int) - 1
    · have e2 : (rowH c.way)[0 + x.height.toNat]? = some [.ints .u8 32 (c.way.getD x.height.toNat [])] := by rw [Nat.zero_add]; exact way_at c _ (by omega)
      rw [decide_eq_true h1]
      ((conv => whnf); (repeat (((refine Exists.intro _ (And.intro (by ((conv => whnf); (repeat ((refine And.intro (by first | exact rfl | omega) ?_); (conv => whnf))))) ?_)); (conv => whnf)))))
      refine Exists.intro (.agg [.ints .u8 32 (c.way.getD x.height.toNat [])]) (And.intro (by (conv => whnf); rw [e2]; exact ⟨rfl, rfl⟩) ?_)
      ((conv => whnf); (repeat (((refine Exists.intro _ (And.intro (by ((conv => whnf); (repeat ((refine And.intro (by exact rfl) ?_); (conv => whnf))))) ?_)); (conv => whnf)))))
      refine ev_sound tokT (keep := fun _ => true) ?_
      (conv => whnf)
      rw [show (c.way.getD x.height.toNat [] == id && true) = decide (c.way.getD x.height.toNat [] = id) by rw [Bool.and_true]; exact Bool.eq_iff_iff.2 (by simp)]
      (refine Left.of [0, 1, 2, 3] (.bool (decide (c.way.getD x.height.toNat [] = id))) [c.varE true 1 2 3, c.mapE true, c.wayE true, c.orpE true] (by rfl) (by rfl) (by rfl) (by (repeat' (first | exact True.intro | exact rfl | refine And.intro ?_ ?_ | (simp [AV.ren, AV.rens, AObj.ren, Ent.ren, AV.inn, AV.inns, AObj.inn, *]; done)))) (by rfl) (by (repeat' (first | exact True.intro | exact rfl | refine And.intro ?_ ?_ | (simp [AV.ren, AV.rens, AObj.ren, Ent.ren, AV.inn, AV.inns, AObj.inn, *]; done)))) ?_)
      exact ⟨rfl, rfl⟩
    · rw [decide_eq_false h1]
      ((conv => whnf); (repeat (((refine Exists.intro _ (And.intro (by ((conv => whnf); (repeat ((refine And.intro (by exact rfl) ?_); (conv => whnf))))) ?_)); (conv => whnf)))))
      refine ev_sound tokT (keep := fun _ => true) ?_
      (conv => whnf)
      (refine Left.of [0, 1, 2, 3] (.bool false) [c.varE true 1 2 3, c.mapE true, c.wayE true, c.orpE true] (by rfl) (by rfl) (by rfl) (by (repeat' (first | exact True.intro | exact rfl | refine And.intro ?_ ?_ | (simp [AV.ren, AV.rens, AObj.ren, Ent.ren, AV.inn, AV.inns, AObj.inn, *]; done)))) (by rfl) (by (repeat' (first | exact True.intro | exact rfl | refine And.intro ?_ ?_ | (simp [AV.ren, AV.rens, AObj.ren, Ent.ren, AV.inn, AV.inns, AObj.inn, *]; done)))) ?_)
      exact ⟨rfl, rfl⟩
end Go.Aw
