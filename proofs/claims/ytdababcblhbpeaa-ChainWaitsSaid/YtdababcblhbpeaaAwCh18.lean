/-
  AwCh18: headers of moulds. Own work.
-/
import Derived.Test.YtdababcblhbpeaaAwCh17
set_option linter.unusedVariables false
set_option linter.unusedSimpArgs false
set_option maxRecDepth 20000
set_option maxHeartbeats 4000000
open Go.Proofs
namespace Go.Aw

/-- a slot's room, let go -/
def capOffF (t : Nat) : Fr → Fr
  | [] => []
  | (u, v) :: r => (u, match Nat.beq u t with | true => (match v with | .sl b o l _ => .sl b o l none | v => v) | false => v) :: capOffF t r
theorem capOffF_find {ρ : Nat → Loc} {n t : Nat} {tmps : Array Value} : ∀ {fr : Fr}, FSat ρ n fr tmps → FSat ρ n (capOffF t fr) tmps := by
  intro fr h u v hv
  have key : ∀ (fr : Fr), Fr.find (capOffF t fr) u = some v → ∃ v', Fr.find fr u = some v' ∧ (v = v' ∨ ∃ b o l c, v' = .sl b o l c ∧ v = .sl b o l none) := by
    intro fr
    induction fr with
    | nil => intro h; cases h
    | cons x r ih =>
      obtain ⟨w, y⟩ := x
      intro h
      simp only [capOffF, Fr.find] at h ⊢
      cases hb : Nat.beq w u with
      | true =>
        rw [hb] at h
        simp only [Option.some.injEq] at h
        refine ⟨y, rfl, ?_⟩
        cases hb2 : Nat.beq w t with
        | true =>
          rw [hb2] at h
          cases y <;> first | exact .inl h.symm | exact .inr ⟨_, _, _, _, rfl, h.symm⟩
        | false => rw [hb2] at h; exact .inl h.symm
      | false => rw [hb] at h; exact ih h
  obtain ⟨v', h1, h2⟩ := key fr hv
  have h3 := h u v' h1
  rcases h2 with rfl | ⟨b, o, l, c, rfl, rfl⟩
  · exact h3
  · simp only [VR] at h3 ⊢
    obtain ⟨g1, ad, C, g2, g3, g4, g5⟩ := h3
    exact ⟨g1, ad, C, g2, g3, fun q hq => (by cases hq), g5⟩
theorem AW.slotOff {P : Program} {N M : Nat} {c : Code} {Kn E G R} {fr : Fr} {hp : Hp} (t : Nat) (fr' : Fr) (hh : capOffF t fr = fr') (h : AW P N M c Kn E G R fr' hp) : AW P N M c Kn E G R fr hp := by
  subst hh
  rw [AW_iff] at h ⊢
  exact fun w0 ρ a w h1 h2 h3 h4 h5 => h w0 ρ a w h1 (capOffF_find h2) h3 h4 h5
structure Md where
  up : Int
  work : Int
  deriving Inhabited
def rowMd (l : List Md) : List (List AV) := l.map fun m => [.int .i64 m.up, .int .i64 m.work]
theorem rowMd_rens (σ : Nat → Nat) (l : List Md) : (rowMd l).map (AV.rens σ) = rowMd l := by
  simp [rowMd, AV.rens, AV.ren, Function.comp_def]
@[simp] theorem all_rowMd (n : Nat) (l : List Md) : (∀ x, x ∈ rowMd l → AV.inns n x) ↔ True := by
  refine iff_true_intro fun x hx => ?_
  obtain ⟨y, _, rfl⟩ := List.mem_map.1 hx
  simp [AV.inns, AV.inn]
@[simp] theorem rowMd_length (l : List Md) : (rowMd l).length = l.length := by simp [rowMd]
def rowHd (l : List Hdr) : List (List AV) := l.map Hdr.segs
theorem rowHd_rens (σ : Nat → Nat) (l : List Hdr) : (rowHd l).map (AV.rens σ) = rowHd l := by
  simp [rowHd, AV.rens, AV.ren, Function.comp_def]
@[simp] theorem all_rowHd (n : Nat) (l : List Hdr) : (∀ x, x ∈ rowHd l → AV.inns n x) ↔ True := by
  refine iff_true_intro fun x hx => ?_
  obtain ⟨y, _, rfl⟩ := List.mem_map.1 hx
  simp [AV.inns, AV.inn]
@[simp] theorem rowHd_length (l : List Hdr) : (rowHd l).length = l.length := by simp [rowHd]
attribute [simp] rowMd_rens rowHd_rens
theorem rowHd_snoc (l : List Hdr) (n : Nat) (h : Hdr) (hn : n = l.length) : (List.drop 0 (rowHd l)).take n ++ List.take 1 (List.drop 0 [(AV.agg [AV.ints .u8 32 h.prev, AV.ints .u8 32 h.root, AV.int .i64 h.work, AV.int .i64 h.nonce]).segs]) = rowHd (l ++ [h]) := by
  subst hn
  rw [List.drop_zero, List.take_of_length_le (by simp)]; simp [rowHd, AV.segs]
theorem hd_at (l : List Hdr) (i : Nat) (hi : i < l.length) : (rowHd l)[i]? = some (l.getD i default).segs := by
  have := List.getElem?_eq_getElem (l := l) (i := i) hi
  simp [rowHd, this]
theorem md_at (l : List Md) (i : Nat) (hi : i < l.length) : (rowMd l)[i]? = some [.int .i64 (l.getD i default).up, .int .i64 (l.getD i default).work] := by
  have := List.getElem?_eq_getElem (l := l) (i := i) hi
  simp [rowMd, this]

def gen0 : Hdr := ⟨List.replicate 32 0, List.replicate 32 0, 1, 0⟩
@[irreducible] def inB (out : List Hdr) (up : Int) : Bool := decide (0 ≤ up ∧ up < out.length)
def pickL (b : Bool) (x y : List Int) : List Int := match b with | true => x | false => y
def castH (out : List Hdr) (i : Nat) (m : Md) : Hdr := ⟨pickL (inB out m.up) (hidOf (out.getD m.up.toNat default)) (nameL i), List.replicate 32 0, m.work, i⟩
def castL : List Md → Nat → List Hdr → List Hdr
  | [], _, out => out
  | m :: r, i, out => castL r (i + 1) (out ++ [castH out i m])
def castA (l : List Md) : List Hdr := castL l 0 [gen0]
theorem nameL_len (n : Int) : (nameL n).length = 32 := by simp [nameL]
theorem castH_wf (out : List Hdr) (i : Nat) (m : Md) : (castH out i m).wf := by
  unfold castH
  refine ⟨?_, by simp⟩
  simp only [pickL]
  split
  · exact hid_len _
  · exact nameL_len _
theorem castL_props : ∀ (l : List Md) (i : Nat) (out : List Hdr), (∀ h ∈ out, h.wf) → (∀ h ∈ castL l i out, h.wf) ∧ (castL l i out).length = out.length + l.length ∧ ∀ j, j < out.length → (castL l i out)[j]? = out[j]?
  | [], i, out, h => ⟨h, rfl, fun _ _ => rfl⟩
  | m :: r, i, out, h => by
    obtain ⟨h1, h2, h3⟩ := castL_props r (i + 1) (out ++ [castH out i m]) (by
      intro x hx
      rcases List.mem_append.1 hx with g | g
      · exact h x g
      · simp at g; subst g; exact castH_wf _ _ _)
    refine ⟨h1, by simp only [castL, h2, List.length_append, List.length_cons, List.length_nil]; omega, fun j hj => ?_⟩
    simp only [castL]
    rw [h3 j (by simp; omega), List.getElem?_append_left hj]
theorem gen0_wf : gen0.wf := ⟨by simp [gen0], by simp [gen0]⟩
theorem castA_props (l : List Md) : (∀ h ∈ castA l, h.wf) ∧ (castA l).length = l.length + 1 ∧ (castA l)[0]? = some gen0 := by
  obtain ⟨h1, h2, h3⟩ := castL_props l 0 [gen0] (by simp [gen0_wf])
  exact ⟨h1, by simp only [castA, h2, List.length_cons, List.length_nil]; omega, by rw [castA, h3 0 (by simp)]; rfl⟩

theorem cast_ok (l : List Md) (cap : Option Nat) (hl : l.length ≤ 200) :
    AC Try.prog 58 [.sl 0 0 l.length cap] [⟨2, true, none, .row (rowMd l)⟩] (fun r hp' => r = .sl 1 0 (l.length + 1) none ∧ hp' = [⟨2, true, none, .row (rowMd l)⟩, ⟨66, false, none, .row (rowHd (castA l))⟩]) := by
  refine AC.left (AC.body tokT Try.func58 rfl rfl rfl (by decide) (by rfl) ?_)
  refine AW.pre tokT (fun _ => true) ?_; (conv => whnf)
  refine AW.pre tokT (fun _ => true) ?_; (conv => whnf)
  refine AW.slotOff 3 _ rfl ?_
  (refine AW.turnL [0, 1] [(0, .sl 0 0 l.length cap), (3, .sl 1 0 1 none)] [⟨2, true, none, .row (rowMd l)⟩, ⟨66, false, none, .row (rowHd [gen0])⟩] (by rfl) (by rfl) (by rfl) (by (repeat' (first | exact True.intro | exact rfl | refine And.intro ?_ ?_ | (simp [AV.ren, AV.rens, AObj.ren, Ent.ren, AV.inn, AV.inns, AObj.inn, *]; done)))) (by (repeat' (first | exact True.intro | exact rfl | refine And.intro ?_ ?_ | (simp [AV.ren, AV.rens, AObj.ren, Ent.ren, AV.inn, AV.inns, AObj.inn, *]; done)))) ?_)
  refine AW.cutT (fun fr hp => fr = [(3, .sl 1 0 (l.length + 1) none)] ∧ hp = [⟨2, true, none, .row (rowMd l)⟩, ⟨66, false, none, .row (rowHd (castA l))⟩]) ?_ ?_
  · refine AW.pre tokT (fun _ => true) ?_; (conv => whnf)
    refine AW.block ?_
    refine AW.loop (fun q fr hp => ∃ (i : Nat) (out : List Hdr), q = l.length - i ∧ i ≤ l.length ∧ out.length = i + 1 ∧ (∀ h ∈ out, h.wf) ∧ castL (l.drop i) i out = castA l ∧
      fr = [(0, .sl 0 0 l.length cap), (3, .sl 1 0 (i + 1) none), (4, .int .i64 (i : Int))] ∧ hp = [⟨2, true, none, .row (rowMd l)⟩, ⟨66, false, none, .row (rowHd out)⟩]) l.length ?_ ?_
    · exact ⟨0, [gen0], rfl, by omega, rfl, by simp [gen0_wf], rfl, rfl, rfl⟩
    · rintro q fr hp ⟨i, out, rfl, hi, hol, how, hrun, rfl, rfl⟩ -
      refine AW.post ?_
      refine AW.pre tokT (fun _ => true) ?_; (conv => whnf)
      (cases hlt : (decide ((↑i : Int) < (↑l.length : Int)) : Bool) <;> (try simp only [beq_iff_eq, beq_eq_false_iff_ne, ne_eq, decide_eq_true_eq, decide_eq_false_iff_not, bne_iff_ne, bne_eq_false_iff_eq, Bool.not_eq_true, Bool.not_eq_false, gt_iff_lt, ge_iff_le] at hlt) <;> (try (exfalso; omega)))
      case' false =>
        (conv => whnf)
        have he : i = l.length := by omega
        subst he
        have hfin : castA l = out := by rw [← hrun, List.drop_length]; rfl
        rw [hfin]
        (refine Turned.of [0, 1] [(3, .sl 1 0 (l.length + 1) none)] [⟨2, true, none, .row (rowMd l)⟩, ⟨66, false, none, .row (rowHd out)⟩] (by rfl) (by rfl) (by rfl) (by (repeat' (first | exact True.intro | exact rfl | refine And.intro ?_ ?_ | (simp [AV.ren, AV.rens, AObj.ren, Ent.ren, AV.inn, AV.inns, AObj.inn, *]; done)))) (by (repeat' (first | exact True.intro | exact rfl | refine And.intro ?_ ?_ | (simp [AV.ren, AV.rens, AObj.ren, Ent.ren, AV.inn, AV.inns, AObj.inn, *]; done)))) ?_)
        exact ⟨rfl, rfl⟩
      (conv => whnf)
      obtain ⟨m, hm⟩ : ∃ m, l.getD i default = m := ⟨_, rfl⟩
      have e2 : (rowMd l)[0 + (i : Int).toNat]? = some [.int .i64 m.up, .int .i64 m.work] := by
        rw [Nat.zero_add, Int.toNat_natCast, ← hm]; exact md_at l i (by omega)
      have hdrop : castL (l.drop (i + 1)) (i + 1) (out ++ [castH out i m]) = castA l := by
        rw [← hrun, List.drop_eq_getElem_cons (show i < l.length by omega)]
        have : l[i] = m := by rw [← hm]; simp [List.getElem?_eq_getElem (show i < l.length by omega)]
        rw [this]; rfl
      have hnm := name_ok (i : Int) (by omega)
      obtain ⟨N0, hN0⟩ : ∃ N0, nameL (i : Int) = N0 := ⟨_, rfl⟩
      rw [hN0] at hnm
      refine AW.seq ?_
      refine AW.block ?_
      refine AW.cutT (fun fr hp => fr = [(0, .sl 0 0 l.length cap), (3, .sl 1 0 (i + 1) none), (4, .int .i64 (i : Int)), (5, .ptr 2 0 0 0)] ∧ hp = [⟨2, true, none, .row (rowMd l)⟩, ⟨66, false, none, .row (rowHd out)⟩, ⟨66, false, none, .var [.ints .u8 32 N0, .ints .u8 32 (List.replicate 32 0), .int .i64 m.work, .int .i64 (i : Int)]⟩]) ?_ ?_
      · refine AW.drawT (.pure 0 (.pure 2 (.pure 3 (.pure 4 (.pure 5 (.pure 6 (.pure 7 (.alt 1 (.pure 8 (.one 9 (.one 10 .fin))) (.one 9 (.one 1 (.pure 8 (.one 10 .fin)))))))))))) (keep := fun _ => true) mixed_okC tokT (by kernel_rfl) (by kernel_rfl) ?_
        ((conv => whnf); (repeat (((refine Exists.intro _ (And.intro (by ((conv => whnf); (repeat ((refine And.intro (by first | exact rfl | assumption | omega) ?_); (conv => whnf))))) ?_)); (conv => whnf)))))
        refine Exists.intro (.int .i64 m.work) (And.intro (by (conv => whnf); rw [e2]; exact ⟨rfl, rfl⟩) ?_)
        ((conv => whnf); (repeat (((refine Exists.intro _ (And.intro (by ((conv => whnf); (repeat ((refine And.intro (by exact rfl) ?_); (conv => whnf))))) ?_)); (conv => whnf)))))
        refine Both.mk ?_ ?_
        · (conv => whnf)
          refine AC.pure (v := .agg [.ints .u8 32 N0]) hnm (by simp [AV.inns, AV.inn]) (by simp [AV.inn, AV.inns]) ?_
          ((conv => whnf); (repeat (((with_reducible (refine And.intro (show Go.Aw.againsK _ _ _ _ _ from ?_) ?_)); (focus (repeat' (first | ((with_reducible (show Go.Aw.againsK _ _ _ _ _)); (conv => whnf)) | ((with_reducible (show Go.Aw.againK _ _ _ _ _)); (conv => whnf)) | (with_reducible (exact True.intro)) | (with_reducible (refine And.intro ?_ ?_)) | exact rfl | assumption | omega))); (conv => whnf)))))
          · rw [e2]; exact ⟨rfl, rfl⟩
          ((conv => whnf); (repeat (first | ((with_reducible (refine And.intro (show Go.Aw.againsK _ _ _ _ _ from ?_) ?_)); (focus (repeat' (first | ((with_reducible (show Go.Aw.againsK _ _ _ _ _)); (conv => whnf)) | ((with_reducible (show Go.Aw.againK _ _ _ _ _)); (conv => whnf)) | (with_reducible (exact True.intro)) | (with_reducible (refine And.intro ?_ ?_)) | exact rfl | assumption | omega))); (conv => whnf)) | ((refine Exists.intro _ (And.intro (by ((conv => whnf); (repeat ((refine And.intro (by exact rfl) ?_); (conv => whnf))))) ?_)); (conv => whnf)))))
          · rw [e2]; exact ⟨rfl, rfl⟩
          ((conv => whnf); (repeat (((with_reducible (refine And.intro (show Go.Aw.againsK _ _ _ _ _ from ?_) ?_)); (focus (repeat' (first | ((with_reducible (show Go.Aw.againsK _ _ _ _ _)); (conv => whnf)) | (with_reducible (exact True.intro))))); (conv => whnf)))))
          (refine Turned.of [0, 1, 2] [(0, .sl 0 0 l.length cap), (3, .sl 1 0 (i + 1) none), (4, .int .i64 (i : Int)), (5, .ptr 2 0 0 0)] [⟨2, true, none, .row (rowMd l)⟩, ⟨66, false, none, .row (rowHd out)⟩, ⟨66, false, none, .var [.ints .u8 32 N0, .ints .u8 32 (List.replicate 32 0), .int .i64 m.work, .int .i64 (i : Int)]⟩] (by rfl) (by rfl) (by rfl) (by (repeat' (first | exact True.intro | exact rfl | refine And.intro ?_ ?_ | (simp [AV.ren, AV.rens, AObj.ren, Ent.ren, AV.inn, AV.inns, AObj.inn, *]; done)))) (by (repeat' (first | exact True.intro | exact rfl | refine And.intro ?_ ?_ | (simp [AV.ren, AV.rens, AObj.ren, Ent.ren, AV.inn, AV.inns, AObj.inn, *]; done)))) ?_)
          exact ⟨rfl, rfl⟩
        · ((conv => whnf); (repeat (((with_reducible (refine And.intro (show Go.Aw.againsK _ _ _ _ _ from ?_) ?_)); (focus (repeat' (first | ((with_reducible (show Go.Aw.againsK _ _ _ _ _)); (conv => whnf)) | ((with_reducible (show Go.Aw.againK _ _ _ _ _)); (conv => whnf)) | (with_reducible (exact True.intro)) | (with_reducible (refine And.intro ?_ ?_)) | exact rfl | assumption | omega))); (conv => whnf)))))
          · rw [e2]; exact ⟨rfl, rfl⟩
          (conv => whnf)
          refine AC.pure (v := .agg [.ints .u8 32 N0]) hnm (by simp [AV.inns, AV.inn]) (by simp [AV.inn, AV.inns]) ?_
          ((conv => whnf); (repeat (((with_reducible (refine And.intro (show Go.Aw.againsK _ _ _ _ _ from ?_) ?_)); (focus (repeat' (first | ((with_reducible (show Go.Aw.againsK _ _ _ _ _)); (conv => whnf)) | ((with_reducible (show Go.Aw.againK _ _ _ _ _)); (conv => whnf)) | (with_reducible (exact True.intro)) | (with_reducible (refine And.intro ?_ ?_)) | exact rfl | assumption | omega))); (conv => whnf)))))
          · rw [e2]; exact ⟨rfl, rfl⟩
          ((conv => whnf); (repeat (first | ((with_reducible (refine And.intro (show Go.Aw.againsK _ _ _ _ _ from ?_) ?_)); (focus (repeat' (first | ((with_reducible (show Go.Aw.againsK _ _ _ _ _)); (conv => whnf)) | (with_reducible (exact True.intro))))); (conv => whnf)) | ((refine Exists.intro _ (And.intro (by ((conv => whnf); (repeat ((refine And.intro (by exact rfl) ?_); (conv => whnf))))) ?_)); (conv => whnf)))))
          (refine Turned.of [0, 1, 2] [(0, .sl 0 0 l.length cap), (3, .sl 1 0 (i + 1) none), (4, .int .i64 (i : Int)), (5, .ptr 2 0 0 0)] [⟨2, true, none, .row (rowMd l)⟩, ⟨66, false, none, .row (rowHd out)⟩, ⟨66, false, none, .var [.ints .u8 32 N0, .ints .u8 32 (List.replicate 32 0), .int .i64 m.work, .int .i64 (i : Int)]⟩] (by rfl) (by rfl) (by rfl) (by (repeat' (first | exact True.intro | exact rfl | refine And.intro ?_ ?_ | (simp [AV.ren, AV.rens, AObj.ren, Ent.ren, AV.inn, AV.inns, AObj.inn, *]; done)))) (by (repeat' (first | exact True.intro | exact rfl | refine And.intro ?_ ?_ | (simp [AV.ren, AV.rens, AObj.ren, Ent.ren, AV.inn, AV.inns, AObj.inn, *]; done)))) ?_)
          exact ⟨rfl, rfl⟩
      rintro fr hp ⟨rfl, rfl⟩
      obtain ⟨ib, hib⟩ : ∃ x, inB out m.up = x := ⟨_, rfl⟩
      obtain ⟨h2, hh2⟩ : ∃ x, castH out i m = x := ⟨_, rfl⟩
      rw [hh2] at hdrop
      have hh2' : h2 = ⟨pickL ib (hidOf (out.getD m.up.toNat default)) N0, List.replicate 32 0, m.work, i⟩ := by
        rw [← hh2]; unfold castH; rw [hib, hN0]
      obtain ⟨P2, hP2⟩ : ∃ P2, pickL ib (hidOf (out.getD m.up.toNat default)) N0 = P2 := ⟨_, rfl⟩
      refine AW.cutT (fun fr hp => fr = [(0, .sl 0 0 l.length cap), (3, .sl 1 0 (i + 1) none), (4, .int .i64 (i : Int)), (5, .ptr 2 0 0 0)] ∧ hp = [⟨2, true, none, .row (rowMd l)⟩, ⟨66, false, none, .row (rowHd out)⟩, ⟨66, false, none, .var [.ints .u8 32 P2, .ints .u8 32 (List.replicate 32 0), .int .i64 m.work, .int .i64 (i : Int)]⟩]) ?_ ?_
      · refine AW.cutT (fun fr hp => fr = [(0, .sl 0 0 l.length cap), (3, .sl 1 0 (i + 1) none), (4, .int .i64 (i : Int)), (5, .ptr 2 0 0 0), (38, .bool ib)] ∧ hp = [⟨2, true, none, .row (rowMd l)⟩, ⟨66, false, none, .row (rowHd out)⟩, ⟨66, false, none, .var [.ints .u8 32 N0, .ints .u8 32 (List.replicate 32 0), .int .i64 m.work, .int .i64 (i : Int)]⟩]) ?_ ?_
        · refine ev_sound tokT (keep := fun _ => true) ?_
          ((conv => whnf); (repeat (((refine And.intro (by first | assumption | omega) ?_); (conv => whnf)))))
          rw [e2]
          (conv => whnf)
          (cases g1 : (decide (m.up ≥ 0) : Bool) <;> (try simp only [beq_iff_eq, beq_eq_false_iff_ne, ne_eq, decide_eq_true_eq, decide_eq_false_iff_not, bne_iff_ne, bne_eq_false_iff_eq, Bool.not_eq_true, Bool.not_eq_false, gt_iff_lt, ge_iff_le] at g1) <;> (try (exfalso; omega)))
          case' false =>
            have hb : ib = false := by rw [← hib]; unfold inB; exact decide_eq_false (by omega)
            subst hb
            (conv => whnf)
            (refine Turned.of [0, 1, 2] [(0, .sl 0 0 l.length cap), (3, .sl 1 0 (i + 1) none), (4, .int .i64 (i : Int)), (5, .ptr 2 0 0 0), (38, .bool false)] [⟨2, true, none, .row (rowMd l)⟩, ⟨66, false, none, .row (rowHd out)⟩, ⟨66, false, none, .var [.ints .u8 32 N0, .ints .u8 32 (List.replicate 32 0), .int .i64 m.work, .int .i64 (i : Int)]⟩] (by rfl) (by rfl) (by rfl) (by (repeat' (first | exact True.intro | exact rfl | refine And.intro ?_ ?_ | (simp [AV.ren, AV.rens, AObj.ren, Ent.ren, AV.inn, AV.inns, AObj.inn, *]; done)))) (by (repeat' (first | exact True.intro | exact rfl | refine And.intro ?_ ?_ | (simp [AV.ren, AV.rens, AObj.ren, Ent.ren, AV.inn, AV.inns, AObj.inn, *]; done)))) ?_)
            exact ⟨rfl, rfl⟩
          ((conv => whnf); (repeat (((refine And.intro (by first | assumption | omega) ?_); (conv => whnf)))))
          rw [e2]
          (conv => whnf)
          have hb : ib = decide (m.up < (((i + 1 : Nat)) : Int)) := by rw [← hib]; unfold inB; rw [hol]; exact Bool.eq_iff_iff.2 (by simp; omega)
          rw [← hb]
          (refine Turned.of [0, 1, 2] [(0, .sl 0 0 l.length cap), (3, .sl 1 0 (i + 1) none), (4, .int .i64 (i : Int)), (5, .ptr 2 0 0 0), (38, .bool ib)] [⟨2, true, none, .row (rowMd l)⟩, ⟨66, false, none, .row (rowHd out)⟩, ⟨66, false, none, .var [.ints .u8 32 N0, .ints .u8 32 (List.replicate 32 0), .int .i64 m.work, .int .i64 (i : Int)]⟩] (by rfl) (by rfl) (by rfl) (by (repeat' (first | exact True.intro | exact rfl | refine And.intro ?_ ?_ | (simp [AV.ren, AV.rens, AObj.ren, Ent.ren, AV.inn, AV.inns, AObj.inn, *]; done)))) (by (repeat' (first | exact True.intro | exact rfl | refine And.intro ?_ ?_ | (simp [AV.ren, AV.rens, AObj.ren, Ent.ren, AV.inn, AV.inns, AObj.inn, *]; done)))) ?_)
          exact ⟨rfl, rfl⟩
        rintro fr hp ⟨rfl, rfl⟩
        refine AW.condK ?_
        (conv => whnf)
        cases ib with
        | false =>
          subst hP2
          refine ev_sound tokT (keep := fun _ => true) ?_
          (conv => whnf)
          (refine Turned.of [0, 1, 2] [(0, .sl 0 0 l.length cap), (3, .sl 1 0 (i + 1) none), (4, .int .i64 (i : Int)), (5, .ptr 2 0 0 0)] [⟨2, true, none, .row (rowMd l)⟩, ⟨66, false, none, .row (rowHd out)⟩, ⟨66, false, none, .var [.ints .u8 32 N0, .ints .u8 32 (List.replicate 32 0), .int .i64 m.work, .int .i64 (i : Int)]⟩] (by rfl) (by rfl) (by rfl) (by (repeat' (first | exact True.intro | exact rfl | refine And.intro ?_ ?_ | (simp [AV.ren, AV.rens, AObj.ren, Ent.ren, AV.inn, AV.inns, AObj.inn, *]; done)))) (by (repeat' (first | exact True.intro | exact rfl | refine And.intro ?_ ?_ | (simp [AV.ren, AV.rens, AObj.ren, Ent.ren, AV.inn, AV.inns, AObj.inn, *]; done)))) ?_)
          exact ⟨rfl, rfl⟩
        | true =>
          have hin : 0 ≤ m.up ∧ m.up < ((i + 1 : Nat) : Int) := by
            unfold inB at hib; rw [hol] at hib; exact of_decide_eq_true hib
          have hidx : m.up.toNat < out.length := by omega
          obtain ⟨ho, hho⟩ : ∃ ho, out.getD m.up.toNat default = ho := ⟨_, rfl⟩
          have how2 : ho.wf := by
            rw [← hho]; simp [List.getElem?_eq_getElem hidx]; exact how _ (List.getElem_mem hidx)
          have hri := refid_ok ho how2
          rw [hho] at hP2
          simp only [pickL] at hP2
          rw [hP2] at hri
          have e3 : (rowHd out)[0 + m.up.toNat]? = some ho.segs := by rw [Nat.zero_add, ← hho]; exact hd_at out _ hidx
          refine ev_sound tokT (keep := fun _ => true) ?_
          ((conv => whnf); (repeat (((refine And.intro (by first | assumption | omega) ?_); (conv => whnf)))))
          rw [e2]
          ((conv => whnf); (repeat (((refine And.intro (by omega) ?_); (conv => whnf)))))
          rw [e3]
          (conv => whnf)
          refine AC.pure (v := .agg [.ints .u8 32 P2]) hri (by simp [AV.inns, AV.inn]) (by simp [AV.inn, AV.inns]) ?_
          (conv => whnf)
          (refine Turned.of [0, 1, 2] [(0, .sl 0 0 l.length cap), (3, .sl 1 0 (i + 1) none), (4, .int .i64 (i : Int)), (5, .ptr 2 0 0 0)] [⟨2, true, none, .row (rowMd l)⟩, ⟨66, false, none, .row (rowHd out)⟩, ⟨66, false, none, .var [.ints .u8 32 P2, .ints .u8 32 (List.replicate 32 0), .int .i64 m.work, .int .i64 (i : Int)]⟩] (by rfl) (by rfl) (by rfl) (by (repeat' (first | exact True.intro | exact rfl | refine And.intro ?_ ?_ | (simp [AV.ren, AV.rens, AObj.ren, Ent.ren, AV.inn, AV.inns, AObj.inn, *]; done)))) (by (repeat' (first | exact True.intro | exact rfl | refine And.intro ?_ ?_ | (simp [AV.ren, AV.rens, AObj.ren, Ent.ren, AV.inn, AV.inns, AObj.inn, *]; done)))) ?_)
          exact ⟨rfl, rfl⟩
      rintro fr hp ⟨rfl, rfl⟩
      rw [hP2] at hh2'
      have hsn := rowHd_snoc out (i + 1) ⟨P2, List.replicate 32 0, m.work, i⟩ hol.symm
      simp only [] at hsn
      rw [← hh2'] at hsn
      refine ev_sound tokT (keep := fun _ => true) ?_; ((conv => whnf); (repeat (((refine And.intro (by first | (simp; done) | (simp; omega) | (simp [roomMost]; omega)) ?_); (conv => whnf)))))
      rw [hsn]
      refine ev_sound tokT (keep := fun _ => true) ?_; (conv => whnf)
      rw [IntWalk.i64_in ((i : Int) + 1) (by omega)]
      (refine Turned.of [0, 4] [(0, .sl 0 0 l.length cap), (3, .sl 1 0 (i + 1 + 1) none), (4, .int .i64 ((i + 1 : Nat) : Int))] [⟨2, true, none, .row (rowMd l)⟩, ⟨66, false, none, .row (rowHd (out ++ [h2]))⟩] (by rfl) (by rfl) (by rfl) (by (repeat' (first | exact True.intro | exact rfl | refine And.intro ?_ ?_ | (simp [AV.ren, AV.rens, AObj.ren, Ent.ren, AV.inn, AV.inns, AObj.inn, *]; done)))) (by (repeat' (first | exact True.intro | exact rfl | refine And.intro ?_ ?_ | (simp [AV.ren, AV.rens, AObj.ren, Ent.ren, AV.inn, AV.inns, AObj.inn, *]; done)))) ?_)
      refine ⟨l.length - (i + 1), by omega, i + 1, out ++ [h2], rfl, by omega, by simp [hol], ?_, hdrop, rfl, rfl⟩
      intro x hx
      rcases List.mem_append.1 hx with g | g
      · exact how x g
      · simp at g; subst g; rw [← hh2]; exact castH_wf _ _ _
  rintro fr hp ⟨rfl, rfl⟩
  refine ev_sound tokT (keep := fun _ => true) ?_
  (conv => whnf)
  (refine Left.of [0, 1] (.sl 1 0 (l.length + 1) none) [⟨2, true, none, .row (rowMd l)⟩, ⟨66, false, none, .row (rowHd (castA l))⟩] (by rfl) (by rfl) (by rfl) (by (repeat' (first | exact True.intro | exact rfl | refine And.intro ?_ ?_ | (simp [AV.ren, AV.rens, AObj.ren, Ent.ren, AV.inn, AV.inns, AObj.inn, *]; done)))) (by rfl) (by (repeat' (first | exact True.intro | exact rfl | refine And.intro ?_ ?_ | (simp [AV.ren, AV.rens, AObj.ren, Ent.ren, AV.inn, AV.inns, AObj.inn, *]; done)))) ?_)
  exact ⟨rfl, rfl⟩
end Go.Aw
