/-
  AwCh4: a chain takes a header in. Own work.
-/
import Derived.Test.YtdababcblhbpeaaAwCh3
set_option linter.unusedVariables false
set_option linter.unusedSimpArgs false
set_option maxRecDepth 20000
open Go.Proofs
namespace Go.Aw

def insK (id : List Int) (x : KH) (clock : Nat) : List (Nat × List Int × KH) → List (Nat × List Int × KH)
  | [] => [(clock, id, x)]
  | e :: r => if id = e.2.1 then (e.1, e.2.1, x) :: r else e :: insK id x clock r
def clockK (id : List Int) (l : List (Nat × List Int × KH)) (clock : Nat) : Nat := match findK id l with | some _ => clock | none => clock + 1
theorem putM_knM (id : List Int) (x : KH) (clock : Nat) : ∀ l, putM id x.av clock (knM l) = knM (insK id x clock l)
  | [] => rfl
  | e :: r => by
    simp only [knM, List.map_cons, putM, insK]
    by_cases q : id = e.2.1
    · rw [if_pos q, show (id == e.2.1) = true by simpa using q]
      rfl
    · rw [if_neg q, show (id == e.2.1) = false by simpa using q]
      have := putM_knM id x clock r
      simp only [knM] at this
      simp only [this, List.map_cons]
theorem clockM_knM (id : List Int) (l : List (Nat × List Int × KH)) (clock : Nat) : clockM id (knM l) clock = clockK id l clock := by
  unfold clockM clockK
  rcases findM_knM id l with ⟨g1, g2⟩ | ⟨b, x, g1, g2⟩ <;> rw [g1, g2]

/-- the header that is entered -/
def newK (c : Ch) (h : Hdr) : KH := ⟨h.prev, ((findK h.prev c.known).getD zeroK).height + 1, ((findK h.prev c.known).getD zeroK).work + h.work, c.came + 1⟩
def takesC (c : Ch) (id : List Int) (h : Hdr) : Ch := { c with came := c.came + 1, known := insK id (newK c h) c.clock c.known, clock := clockK id c.known c.clock }
@[irreducible] def deepB (c : Ch) (n : Int) : Bool := decide (n < (c.way.length : Int) - 1 - c.k)
theorem deep_ok' (c : Ch) (n : Int) (hw : c.way.length ≤ 1000000) (hk : 0 ≤ c.k ∧ c.k ≤ 1000000) :
    AC Try.prog 114 [.ptr 0 0 0 0, .int .i64 n] [c.varE true 1 2 3, c.mapE true, c.wayE true, c.orpE true] (fun r hp' => r = .bool (deepB c n) ∧ hp' = [c.varE true 1 2 3, c.mapE true, c.wayE true, c.orpE true]) := by
  unfold deepB; exact deep_ok c n hw hk
theorem prevB {c : Ch} {N : Nat} (hc : KOk c N) (id : List Int) : (0 ≤ ((findK id c.known).getD zeroK).height ∧ ((findK id c.known).getD zeroK).height ≤ 100000) ∧
    (0 ≤ ((findK id c.known).getD zeroK).work ∧ ((findK id c.known).getD zeroK).work ≤ 144115188075855872) := by
  have hs := hc.sum
  cases h : findK id c.known with
  | none => simp [zeroK]
  | some x =>
    obtain ⟨b, hb⟩ := findK_mem h
    have h1 := hc.hts _ hb
    have h2 := hc.works _ hb
    simp only [Option.getD_some] at h1 h2 ⊢
    omega

theorem takes_ok (c : Ch) (id : List Int) (h : Hdr) (hid : id.length = 32) (hh : h.wf) {N : Nat} (hc : KOk c N) (hw : 0 ≤ h.work ∧ h.work ≤ 1099511627776) :
    AC Try.prog 93 [.ptr 0 0 0 0, .agg [.ints .u8 32 id], h.av] [c.varE false 1 2 3, c.mapE false, c.wayE true, c.orpE true]
      (fun r hp' => r = .bool (!deepB c ((findK h.prev c.known).getD zeroK).height) ∧
        hp' = if deepB c ((findK h.prev c.known).getD zeroK).height = true then [c.varE false 1 2 3, c.mapE false, c.wayE true, c.orpE true]
          else [(takesC c id h).varE false 1 2 3, (takesC c id h).mapE false, (takesC c id h).wayE true, (takesC c id h).orpE true]) := by
  refine AC.left (AC.body tokT Try.func93 rfl rfl rfl (by decide) (by rfl) ?_)
  have hp := hh.prev
  have hpb := prevB hc h.prev
  have hca := hc.sum
  have hd := deep_ok' c ((findK h.prev c.known).getD zeroK).height hc.wayn hc.hk
  have hnew : newK c h = ⟨h.prev, ((findK h.prev c.known).getD zeroK).height + 1, ((findK h.prev c.known).getD zeroK).work + h.work, c.came + 1⟩ := rfl
  have hlk : findM h.prev (knM c.known) = none ∧ findK h.prev c.known = none ∨ ∃ b x, findM h.prev (knM c.known) = some (b, h.prev, KH.av x) ∧ findK h.prev c.known = some x := findM_knM _ _
  unfold Ch.varE Ch.mapE Ch.wayE Ch.orpE at hd ⊢
  refine AW.pre tokT (fun _ => true) ?_; (conv => whnf)
  refine AW.seq (AW.drawT ((.pure 0 (.pure 1 (.pure 2 (.pure 3 (.pure 4 (.pure 5 (.pure 6 (.one 7 (.one 8 .fin)))))))))) (keep := fun _ => true) mixed_okC tokT (by kernel_rfl) (by kernel_rfl) ?_)
  ((conv => whnf); (repeat (((refine Exists.intro _ (And.intro (by ((conv => whnf); (repeat ((refine And.intro (by exact rfl) ?_); (conv => whnf))))) ?_)); (conv => whnf)))))
  refine Exists.intro (((findK h.prev c.known).getD zeroK).av) (And.intro (by (conv => whnf); rcases hlk with ⟨g1, g2⟩ | ⟨b, x, g1, g2⟩ <;> rw [g1, g2] <;> exact ⟨rfl, rfl⟩) ?_)
  ((conv => whnf); (repeat (((with_reducible (refine And.intro (show Go.Aw.againsK _ _ _ _ _ from ?_) ?_)); (focus (repeat' (first | ((with_reducible (show Go.Aw.againsK _ _ _ _ _)); (conv => whnf)) | ((with_reducible (show Go.Aw.againK _ _ _ _ _)); (conv => whnf)) | (with_reducible (exact True.intro)) | (with_reducible (refine And.intro ?_ ?_)) | exact rfl))); (conv => whnf)))))
  · rcases hlk with ⟨g1, g2⟩ | ⟨b, x, g1, g2⟩ <;> rw [g1, g2] <;> exact ⟨rfl, rfl⟩
  ((conv => whnf); (repeat (((with_reducible (refine And.intro (show Go.Aw.againsK _ _ _ _ _ from ?_) ?_)); (focus (repeat' (first | ((with_reducible (show Go.Aw.againsK _ _ _ _ _)); (conv => whnf)) | (with_reducible (exact True.intro))))); (conv => whnf)))))
  obtain ⟨p, hpe⟩ : ∃ p, (findK h.prev c.known).getD zeroK = p := ⟨_, rfl⟩
  rw [hpe] at hd hpb hnew ⊢
  obtain ⟨d, hde⟩ : ∃ d, deepB c p.height = d := ⟨_, rfl⟩
  rw [hde] at hd ⊢
  refine AW.pre tokT (fun _ => true) ?_; (conv => whnf)
  refine AC.frame hd [0, 1, 2, 3] (by (repeat' (first | exact True.intro | exact rfl | refine And.intro ?_ ?_ | (simp [AV.ren, AV.rens, AObj.ren, Ent.ren, AV.inn, AV.inns, AObj.inn, *]; done)))) (by rfl) (by (repeat' (first | exact True.intro | refine And.intro ?_ ?_ | (simp [AV.ren, AV.rens, AObj.ren, Ent.ren, AV.inn, AV.inns, AObj.inn, *]; done)))) (by rfl) ?_
  rintro r0 hp0 ⟨rfl, rfl⟩
  cases d with
  | true =>
    (conv => whnf)
    rw [if_pos rfl]
    (refine Left.of [0, 1, 2, 3] (.bool false) [c.varE false 1 2 3, c.mapE false, c.wayE true, c.orpE true] (by rfl) (by rfl) (by rfl) (by (repeat' (first | exact True.intro | exact rfl | refine And.intro ?_ ?_ | (simp [AV.ren, AV.rens, AObj.ren, Ent.ren, AV.inn, AV.inns, AObj.inn, *]; done)))) (by rfl) (by (repeat' (first | exact True.intro | exact rfl | refine And.intro ?_ ?_ | (simp [AV.ren, AV.rens, AObj.ren, Ent.ren, AV.inn, AV.inns, AObj.inn, *]; done)))) ?_)
    exact ⟨rfl, rfl⟩
  | false =>
    (conv => whnf)
    refine AW.pre tokT (fun _ => true) ?_; (conv => whnf)
    rw [IntWalk.i64_in (c.came + 1) (by omega)]
    refine AW.seq (AW.drawT (.pure 0 (.pure 1 (.pure 2 (.pure 3 (.pure 4 (.pure 5 (.pure 6 (.pure 7 (.pure 8 (.pure 9 (.pure 10 (.pure 11 (.pure 12 (.pure 13 (.pure 14 (.pure 15 (.pure 16 (.pure 17 (.pure 18 (.pure 19 (.one 20 .fin))))))))))))))))))))) (keep := fun _ => true) mixed_okC tokT (by kernel_rfl) (by kernel_rfl) ?_)
    ((conv => whnf); (repeat (first | ((with_reducible (refine And.intro (show Go.Aw.againsK _ _ _ _ _ from ?_) ?_)); (focus (repeat' (first | ((with_reducible (show Go.Aw.againsK _ _ _ _ _)); (conv => whnf)) | (with_reducible (exact True.intro))))); (conv => whnf)) | ((refine Exists.intro _ (And.intro (by ((conv => whnf); (repeat ((refine And.intro (by exact rfl) ?_); (conv => whnf))))) ?_)); (conv => whnf)))))
    rw [IntWalk.i64_in (p.height + 1) (by omega), IntWalk.i64_in (p.work + h.work) (by omega)]
    refine ev_sound tokT (keep := fun _ => true) ?_
    (conv => whnf)
    have hM : putM id (AV.agg [AV.ints .u8 32 h.prev, AV.int .i64 (p.height + 1), AV.int .i64 (p.work + h.work), AV.int .i64 (c.came + 1)]) c.clock (knM c.known) = knM (takesC c id h).known := by
      have := putM_knM id (newK c h) c.clock c.known
      rw [hnew] at this
      rw [show (takesC c id h).known = insK id (newK c h) c.clock c.known from rfl, hnew]
      exact this
    rw [hM, clockM_knM, if_neg (by decide)]
    (refine Left.of [0, 1, 2, 3] (.bool true) [⟨7, false, none, .var [.int .i64 c.k, .int .i64 c.most, .mp 1, .sl 2 0 c.way.length none, .sl 3 0 c.orphans.length none, .int .i64 (c.came + 1), .bool c.halted]⟩, ⟨0, false, none, .map .u8 32 (knM (takesC c id h).known) (clockK id c.known c.clock)⟩, c.wayE true, c.orpE true] (by rfl) (by rfl) (by rfl) (by (repeat' (first | exact True.intro | exact rfl | refine And.intro ?_ ?_ | (simp [AV.ren, AV.rens, AObj.ren, Ent.ren, AV.inn, AV.inns, AObj.inn, *]; done)))) (by rfl) (by (repeat' (first | exact True.intro | exact rfl | refine And.intro ?_ ?_ | (simp [AV.ren, AV.rens, AObj.ren, Ent.ren, AV.inn, AV.inns, AObj.inn, *]; done)))) ?_)
    exact ⟨rfl, rfl⟩
end Go.Aw
