/-
  Own work: parts of the proof: AwCh0 AwCh1 AwCh2.
-/
import Derived.Test.YtdababcblhbpeaaM4
import Derived.Test.YtdababcblhbpeaaM10
import Derived.Test.YtdababcblhbpeaaM3
import Derived.Test.YtdababcblhbpeaaM6

section
/-
  AwCh0: what a header is, and whether it may be. Own work.
-/
set_option linter.unusedVariables false
set_option linter.unusedSimpArgs false
set_option maxRecDepth 20000
open Go.Proofs
namespace Go.Aw

theorem mixed_okC : Try.prog.follows .mixedOrders = true := by kernel_rfl
/-- a header -/
structure Hdr where
  prev : List Int
  root : List Int
  work : Int
  nonce : Int
  deriving Inhabited
abbrev Hdr.segs (h : Hdr) : List AV := [.ints .u8 32 h.prev, .ints .u8 32 h.root, .int .i64 h.work, .int .i64 h.nonce]
abbrev Hdr.av (h : Hdr) : AV := .agg h.segs
structure Hdr.wf (h : Hdr) : Prop where
  prev : h.prev.length = 32
  root : h.root.length = 32
def Hdr.may (h : Hdr) : Prop := 1 ≤ h.work ∧ h.work ≤ 1099511627776 ∧ 0 ≤ h.nonce ∧ h.nonce ≤ 1099511627776
instance (h : Hdr) : Decidable h.may := by unfold Hdr.may; infer_instance
@[irreducible] def mayB (h : Hdr) : Bool := decide h.may
theorem mayB_true {h : Hdr} : mayB h = true ↔ h.may := by unfold mayB; exact iff_of_eq (decide_eq_true_eq)
theorem may_is {h : Hdr} {X : Bool} (q : X = true ↔ h.may) : AV.bool X = AV.bool (mayB h) := congrArg AV.bool (by rw [Bool.eq_iff_iff, q, mayB_true])

theorem may_ok (h : Hdr) : AC Try.prog 88 [h.av] [] (fun r hp' => r = .bool (mayB h) ∧ hp' = []) := by
  refine AC.left (AC.body tokT Try.func88 rfl rfl rfl (by decide) (by rfl) ?_)
  refine AW.pre tokT (fun _ => true) ?_; (conv => whnf)
  refine ev_sound tokT (keep := fun _ => true) ?_
  (conv => whnf); (cases g1 : (decide (h.work ≥ 1) : Bool) <;> (try simp only [beq_iff_eq, beq_eq_false_iff_ne, ne_eq, decide_eq_true_eq, decide_eq_false_iff_not, bne_iff_ne, bne_eq_false_iff_eq, Bool.not_eq_true, Bool.not_eq_false, gt_iff_lt, ge_iff_le] at g1) <;> (try (exfalso; omega)))
  case' false =>
    (conv => whnf); (refine Left.of [] (.bool false) [] (by rfl) (by rfl) (by rfl) (by (repeat' (exact True.intro))) (by rfl) (by (repeat' (exact True.intro))) ?_)
    exact ⟨may_is ⟨fun q => by simp at q, fun q => absurd q.1 (by omega)⟩, rfl⟩
  (conv => whnf); (cases g2 : (decide (h.work ≤ 1099511627776) : Bool) <;> (try simp only [beq_iff_eq, beq_eq_false_iff_ne, ne_eq, decide_eq_true_eq, decide_eq_false_iff_not, bne_iff_ne, bne_eq_false_iff_eq, Bool.not_eq_true, Bool.not_eq_false, gt_iff_lt, ge_iff_le] at g2) <;> (try (exfalso; omega)))
  case' false =>
    (conv => whnf); (refine Left.of [] (.bool false) [] (by rfl) (by rfl) (by rfl) (by (repeat' (exact True.intro))) (by rfl) (by (repeat' (exact True.intro))) ?_)
    exact ⟨may_is ⟨fun q => by simp at q, fun q => absurd q.2.1 (by omega)⟩, rfl⟩
  (conv => whnf); (cases g3 : (decide (h.nonce ≥ 0) : Bool) <;> (try simp only [beq_iff_eq, beq_eq_false_iff_ne, ne_eq, decide_eq_true_eq, decide_eq_false_iff_not, bne_iff_ne, bne_eq_false_iff_eq, Bool.not_eq_true, Bool.not_eq_false, gt_iff_lt, ge_iff_le] at g3) <;> (try (exfalso; omega)))
  case' false =>
    (conv => whnf); (refine Left.of [] (.bool false) [] (by rfl) (by rfl) (by rfl) (by (repeat' (exact True.intro))) (by rfl) (by (repeat' (exact True.intro))) ?_)
    exact ⟨may_is ⟨fun q => by simp at q, fun q => absurd q.2.2.1 (by omega)⟩, rfl⟩
  (conv => whnf)
  (refine Left.of [] (.bool (decide (h.nonce ≤ 1099511627776))) [] (by rfl) (by rfl) (by rfl) (by (repeat' (exact True.intro))) (by rfl) (by (repeat' (exact True.intro))) ?_)
  exact ⟨may_is ⟨fun q => ⟨by omega, by omega, by omega, of_decide_eq_true q⟩, fun q => decide_eq_true q.2.2.2⟩, rfl⟩
theorem inkH_ok (xs h : List Int) (bl : Bool) (hx : xs.length ≤ 65536) (hl : h.length = 32) :
    AC Try.prog 123 [.ptr 0 0 0 0, .agg [.ints .u8 32 h]] [⟨2, false, none, .var [.sl 1 0 xs.length none, .bool bl]⟩, ⟨1, false, none, .ints .u8 xs⟩]
      (fun r hp' => r = .ptr 0 0 0 0 ∧ hp' = [⟨2, false, none, .var [.sl 2 0 (xs ++ h).length none, .bool bl]⟩, ⟨1, false, none, .gone⟩, ⟨1, false, none, .ints .u8 (xs ++ h)⟩]) := by
  refine AC.left (AC.body tokT Try.func123 rfl rfl rfl (by decide) (by rfl) ?_)
  refine AW.pre tokT (fun _ => true) ?_; (conv => whnf)
  have e1 : (h.drop 0).take (32 - 0) = h := by rw [List.drop_zero, List.take_of_length_le (by omega)]
  have e2 : (xs.drop 0).take xs.length = xs := by rw [List.drop_zero, List.take_length]
  have e3 : xs.length + h.length = (xs ++ h).length := by simp
  refine AW.seq (AW.draw [(false, 0), (false, 1), (false, 2), (false, 3), (false, 4), (true, 5), (true, 6), (false, 7), (false, 8), (true, 9)] (keep := fun _ => true) mixed_okC tokT (by kernel_rfl) (by kernel_rfl) ?_)
  ((conv => whnf); (repeat (first | ((with_reducible (refine And.intro (show Go.Aw.againsK _ _ _ _ _ from ?_) ?_)); (focus (repeat' (first | ((with_reducible (show Go.Aw.againsK _ _ _ _ _)); (conv => whnf)) | ((with_reducible (show Go.Aw.againK _ _ _ _ _)); (conv => whnf)) | (with_reducible (exact True.intro)) | (with_reducible (refine And.intro ?_ ?_)) | exact rfl))); (conv => whnf)) | ((refine And.intro (by first | omega | (simp [roomMost]; omega)) ?_); (conv => whnf)) | ((refine Exists.intro _ (And.intro (by ((conv => whnf); (repeat ((refine And.intro (by exact rfl) ?_); (conv => whnf))))) ?_)); (conv => whnf)))))
  rw [e1, e2, e3]
  refine ev_sound tokT (keep := fun _ => true) ?_
  (conv => whnf)
  (refine Left.of [0, 1, 4] (.ptr 0 0 0 0) [⟨2, false, none, .var [.sl 2 0 (xs ++ h).length none, .bool bl]⟩, ⟨1, false, none, .gone⟩, ⟨1, false, none, .ints .u8 (xs ++ h)⟩] (by rfl) (by rfl) (by rfl) (by (repeat' (first | exact True.intro | exact rfl | refine And.intro ?_ ?_ | (simp [AV.ren, AV.rens, AObj.ren, Ent.ren, AV.inn, AV.inns, AObj.inn, *]; done)))) (by rfl) (by (repeat' (first | exact True.intro | exact rfl | refine And.intro ?_ ?_ | (simp [AV.ren, AV.rens, AObj.ren, Ent.ren, AV.inn, AV.inns, AObj.inn, *]; done)))) ?_)
  exact ⟨rfl, rfl⟩
/-- the first piece of all -/
theorem inkH_nil (h : List Int) (bl : Bool) (hl : h.length = 32) :
    AC Try.prog 123 [.ptr 0 0 0 0, .agg [.ints .u8 32 h]] [⟨2, false, none, .var [.con (.slice none 0 0), .bool bl]⟩]
      (fun r hp' => r = .ptr 0 0 0 0 ∧ hp' = [⟨2, false, none, .var [.sl 1 0 h.length none, .bool bl]⟩, ⟨1, false, none, .ints .u8 h⟩]) := by
  refine AC.left (AC.body tokT Try.func123 rfl rfl rfl (by decide) (by rfl) ?_)
  refine AW.pre tokT (fun _ => true) ?_; (conv => whnf)
  have e1 : (h.drop 0).take (32 - 0) = h := by rw [List.drop_zero, List.take_of_length_le (by omega)]
  have e2 : (([] : List Int).drop 0).take 0 = [] := rfl
  refine AW.nilCell 0 0 1 (.ints .u8 []) [⟨2, false, none, .var [.sl 2 0 0 none, .bool bl]⟩, ⟨32, false, none, .var [.ints .u8 32 h]⟩, ⟨1, false, none, .ints .u8 []⟩] _ rfl rfl rfl ?_
  refine AW.seq (AW.draw [(false, 0), (false, 1), (false, 2), (false, 3), (false, 4), (true, 5), (true, 6), (false, 7), (false, 8), (true, 9)] (keep := fun _ => true) mixed_okC tokT (by kernel_rfl) (by kernel_rfl) ?_)
  ((conv => whnf); (repeat (first | ((with_reducible (refine And.intro (show Go.Aw.againsK _ _ _ _ _ from ?_) ?_)); (focus (repeat' (first | ((with_reducible (show Go.Aw.againsK _ _ _ _ _)); (conv => whnf)) | ((with_reducible (show Go.Aw.againK _ _ _ _ _)); (conv => whnf)) | (with_reducible (exact True.intro)) | (with_reducible (refine And.intro ?_ ?_)) | exact rfl))); (conv => whnf)) | ((refine And.intro (by first | omega | (simp [roomMost]; omega)) ?_); (conv => whnf)) | ((refine Exists.intro _ (And.intro (by ((conv => whnf); (repeat ((refine And.intro (by exact rfl) ?_); (conv => whnf))))) ?_)); (conv => whnf)))))
  rw [e1, e2, List.nil_append, Nat.zero_add h.length]
  refine ev_sound tokT (keep := fun _ => true) ?_
  (conv => whnf)
  (refine Left.of [0, 4] (.ptr 0 0 0 0) [⟨2, false, none, .var [.sl 1 0 h.length none, .bool bl]⟩, ⟨1, false, none, .ints .u8 h⟩] (by rfl) (by rfl) (by rfl) (by (repeat' (first | exact True.intro | exact rfl | refine And.intro ?_ ?_ | (simp [AV.ren, AV.rens, AObj.ren, Ent.ren, AV.inn, AV.inns, AObj.inn, *]; done)))) (by rfl) (by (repeat' (first | exact True.intro | exact rfl | refine And.intro ?_ ?_ | (simp [AV.ren, AV.rens, AObj.ren, Ent.ren, AV.inn, AV.inns, AObj.inn, *]; done)))) ?_)
  exact ⟨rfl, rfl⟩

theorem putL_pos' (n : Int) : 0 < (putL n).length := by
  unfold putL
  split
  · simp
  · split
    · simp [leL]
    · split <;> simp [leL]
theorem putL_le' (n : Int) : (putL n).length ≤ 9 := by
  unfold putL
  split
  · simp
  · split
    · simp [leL]
    · split <;> simp [leL]
/-- two numbers behind what was written -/
theorem inkN_ok (xs : List Int) (a b : Int) (c0 : Option Nat) (hx : xs.length ≤ 65536) (ha : okN a) (hb : okN b) :
    AC Try.prog 124 [.ptr 0 0 0 0, .sl 2 0 2 c0] [⟨2, false, none, .var [.sl 1 0 xs.length none, .bool false]⟩, ⟨1, false, none, .ints .u8 xs⟩, ⟨1, true, none, .ints .i64 [a, b]⟩]
      (fun r hp' => r = .ptr 0 0 0 0 ∧ hp' = [⟨2, false, none, .var [.sl 3 0 (xs ++ putL a ++ putL b).length none, .bool false]⟩, ⟨1, false, none, .gone⟩, ⟨1, true, none, .ints .i64 [a, b]⟩, ⟨1, false, none, .ints .u8 (xs ++ putL a ++ putL b)⟩]) := by
  refine AC.left (AC.body tokT Try.func124 rfl rfl rfl (by decide) (by rfl) ?_)
  refine AW.pre tokT (fun _ => true) ?_; (conv => whnf)
  obtain ⟨N, hN⟩ : ∃ N : Nat → List Int, (∀ i, i ≤ 2 → N i = xs ++ (if i = 0 then [] else putL a) ++ (if i ≤ 1 then [] else putL b)) := ⟨_, fun i _ => rfl⟩
  have hN0 : N 0 = xs := by rw [hN 0 (by omega)]; simp
  have hN1 : N 1 = N 0 ++ putL a := by rw [hN 0 (by omega), hN 1 (by omega)]; simp
  have hN2 : N 2 = N 1 ++ putL b := by rw [hN 2 (by omega), hN 1 (by omega)]; simp
  have hNl : ∀ i, i ≤ 2 → (N i).length ≤ 70000 := by
    intro i hi
    have h1 := putL_le' a
    have h2 := putL_le' b
    rw [hN i hi]
    simp only [List.length_append]
    split <;> split <;> (try simp only [List.length_nil]) <;> omega
  rw [show xs ++ putL a ++ putL b = N 2 by rw [hN2, hN1, hN0]]
  refine AW.cutT (fun fr hp => fr = [(0, .ptr 0 0 0 0)] ∧ hp = [⟨2, false, none, .var [.sl 3 0 (N 2).length none, .bool false]⟩, ⟨1, false, none, .gone⟩, ⟨1, true, none, .ints .i64 [a, b]⟩, ⟨1, false, none, .ints .u8 (N 2)⟩]) ?_ ?_
  · refine AW.pre tokT (fun _ => true) ?_; (conv => whnf)
    refine AW.block ?_
    rw [← hN0]
    (refine AW.turnL [0, 1, 2, 1] [(0, .ptr 0 0 0 0), (8, .sl 2 0 2 c0), (9, .int .i64 2), (10, .int .i64 0)] [⟨2, false, none, .var [.sl 3 0 (N 0).length none, .bool false]⟩, ⟨1, false, none, .gone⟩, ⟨1, true, none, .ints .i64 [a, b]⟩, ⟨1, false, none, .ints .u8 (N 0)⟩] (by rfl) (by rfl) (by rfl) (by (repeat' (first | exact True.intro | exact rfl | refine And.intro ?_ ?_ | (simp [AV.ren, AV.rens, AObj.ren, Ent.ren, AV.inn, AV.inns, AObj.inn, *]; done)))) (by (repeat' (first | exact True.intro | exact rfl | refine And.intro ?_ ?_ | (simp [AV.ren, AV.rens, AObj.ren, Ent.ren, AV.inn, AV.inns, AObj.inn, *]; done)))) ?_)
    refine AW.loop (fun q fr hp => ∃ i : Nat, q = 2 - i ∧ i ≤ 2 ∧ fr = [(0, .ptr 0 0 0 0), (8, .sl 2 0 2 c0), (9, .int .i64 2), (10, .int .i64 (i : Int))] ∧ hp = [⟨2, false, none, .var [.sl 3 0 (N i).length none, .bool false]⟩, ⟨1, false, none, .gone⟩, ⟨1, true, none, .ints .i64 [a, b]⟩, ⟨1, false, none, .ints .u8 (N i)⟩]) 2 ?_ ?_
    · exact ⟨0, rfl, by omega, rfl, rfl⟩
    · rintro q fr hp ⟨i, rfl, hi, rfl, rfl⟩ -
      refine AW.post ?_
      refine ev_sound tokT (keep := fun _ => true) ?_
      (conv => whnf); (cases hlt : (decide ((↑i : Int) < 2) : Bool) <;> (try simp only [beq_iff_eq, beq_eq_false_iff_ne, ne_eq, decide_eq_true_eq, decide_eq_false_iff_not, bne_iff_ne, bne_eq_false_iff_eq, Bool.not_eq_true, Bool.not_eq_false, gt_iff_lt, ge_iff_le] at hlt) <;> (try (exfalso; omega)))
      case' false =>
        (conv => whnf)
        have : i = 2 := by omega
        subst this
        (refine Turned.of [0, 1, 2, 3] [(0, .ptr 0 0 0 0)] [⟨2, false, none, .var [.sl 3 0 (N 2).length none, .bool false]⟩, ⟨1, false, none, .gone⟩, ⟨1, true, none, .ints .i64 [a, b]⟩, ⟨1, false, none, .ints .u8 (N 2)⟩] (by rfl) (by rfl) (by rfl) (by (repeat' (first | exact True.intro | exact rfl | refine And.intro ?_ ?_ | (simp [AV.ren, AV.rens, AObj.ren, Ent.ren, AV.inn, AV.inns, AObj.inn, *]; done)))) (by (repeat' (first | exact True.intro | exact rfl | refine And.intro ?_ ?_ | (simp [AV.ren, AV.rens, AObj.ren, Ent.ren, AV.inn, AV.inns, AObj.inn, *]; done)))) ?_)
        exact ⟨rfl, rfl⟩
      obtain ⟨v, hv, hvo, hvN⟩ : ∃ v, [a, b].getD i 0 = v ∧ okN v ∧ N (i + 1) = N i ++ putL v := by
        rcases i with _ | _ | i
        · exact ⟨a, rfl, ha, hN1⟩
        · exact ⟨b, rfl, hb, hN2⟩
        · omega
      ((conv => whnf); (repeat (((refine And.intro (by first | assumption | omega | (simp; omega)) ?_); (conv => whnf)))))
      rw [show (0 + ((i : Nat) : Int).toNat) = i by omega, hv]
      refine AC.frame (put_any v) [] (by (repeat' (exact True.intro))) (by rfl) (by (repeat' (first | exact True.intro | refine And.intro ?_ ?_))) (by rfl) ?_
      rintro r0 hp0 (⟨_, cap, rfl, rfl⟩ | ⟨hbad, _, _⟩)
      case inr => exact absurd hvo hbad
      have hp1 := putL_pos' v
      have hl1 := hNl i hi
      have hl2 := putL_le' v
      have e1 : ((putL v).drop 0).take (putL v).length = putL v := by rw [List.drop_zero, List.take_length]
      have e2 : ((N i).drop 0).take (N i).length = N i := by rw [List.drop_zero, List.take_length]
      have e3 : (N i).length + (putL v).length = (N (i + 1)).length := by rw [hvN]; simp
      ((conv => whnf); (repeat (((refine And.intro (by first | assumption | omega | (simp [roomMost]; omega)) ?_); (conv => whnf)))))
      rw [e1, e2, ← hvN, e3, IntWalk.i64_in ((i : Int) + 1) (by omega)]
      (refine Turned.of [0, 1, 2, 5] [(0, .ptr 0 0 0 0), (8, .sl 2 0 2 c0), (9, .int .i64 2), (10, .int .i64 ((i : Int) + 1))] [⟨2, false, none, .var [.sl 3 0 (N (i + 1)).length none, .bool false]⟩, ⟨1, false, none, .gone⟩, ⟨1, true, none, .ints .i64 [a, b]⟩, ⟨1, false, none, .ints .u8 (N (i + 1))⟩] (by rfl) (by rfl) (by rfl) (by (repeat' (first | exact True.intro | exact rfl | refine And.intro ?_ ?_ | (simp [AV.ren, AV.rens, AObj.ren, Ent.ren, AV.inn, AV.inns, AObj.inn, *]; done)))) (by (repeat' (first | exact True.intro | exact rfl | refine And.intro ?_ ?_ | (simp [AV.ren, AV.rens, AObj.ren, Ent.ren, AV.inn, AV.inns, AObj.inn, *]; done)))) ?_)
      exact ⟨2 - (i + 1), by omega, i + 1, rfl, by omega, rfl, rfl⟩
  · rintro fr hp ⟨rfl, rfl⟩
    refine ev_sound tokT (keep := fun _ => true) ?_
    (conv => whnf)
    (refine Left.of [0, 1, 2, 3] (.ptr 0 0 0 0) [⟨2, false, none, .var [.sl 3 0 (N 2).length none, .bool false]⟩, ⟨1, false, none, .gone⟩, ⟨1, true, none, .ints .i64 [a, b]⟩, ⟨1, false, none, .ints .u8 (N 2)⟩] (by rfl) (by rfl) (by rfl) (by (repeat' (first | exact True.intro | exact rfl | refine And.intro ?_ ?_ | (simp [AV.ren, AV.rens, AObj.ren, Ent.ren, AV.inn, AV.inns, AObj.inn, *]; done)))) (by rfl) (by (repeat' (first | exact True.intro | exact rfl | refine And.intro ?_ ?_ | (simp [AV.ren, AV.rens, AObj.ren, Ent.ren, AV.inn, AV.inns, AObj.inn, *]; done)))) ?_)
    exact ⟨rfl, rfl⟩
end Go.Aw
end

section
/-
  AwCh1: the hashes of headers, by both readings. Own work.
-/
set_option linter.unusedVariables false
set_option linter.unusedSimpArgs false
set_option maxRecDepth 20000
open Go.Proofs
namespace Go.Aw

/-- the bytes of a header, and its hash -/
def headL (h : Hdr) : List Int := h.prev ++ h.root ++ putL h.work ++ putL h.nonce
instance (n : Int) : Decidable (okN n) := by unfold okN; infer_instance
@[irreducible] def hidOf (h : Hdr) : List Int := if okN h.work ∧ okN h.nonce then shaL (shaL (headL h)) else List.replicate 32 0
theorem hid_len (h : Hdr) : (hidOf h).length = 32 := by
  unfold hidOf
  split
  · exact shaL_length _
  · simp
theorem hid_ok {h : Hdr} (h1 : okN h.work) (h2 : okN h.nonce) : hidOf h = shaL (shaL (headL h)) := by unfold hidOf; rw [if_pos ⟨h1, h2⟩]
theorem hid_bad {h : Hdr} (q : ¬ (okN h.work ∧ okN h.nonce)) : hidOf h = List.replicate 32 0 := by unfold hidOf; rw [if_neg q]
theorem may_fits {h : Hdr} (q : h.may) : okN h.work ∧ okN h.nonce := by unfold Hdr.may at q; unfold okN; omega
theorem headL_len {h : Hdr} (w : h.wf) : (headL h).length ≤ 90 := by
  have h1 := w.prev; have h2 := w.root; have h3 := putL_le' h.work; have h4 := putL_le' h.nonce
  unfold headL
  simp only [List.length_append]
  omega

theorem head_ok (h : Hdr) (w : h.wf) (h1 : okN h.work) (h2 : okN h.nonce) :
    AC Try.prog 112 [h.av] [] (fun r hp' => r = .ptr 0 0 0 0 ∧ hp' = [⟨2, false, none, .var [.sl 1 0 (headL h).length none, .bool false]⟩, ⟨1, false, none, .ints .u8 (headL h)⟩]) := by
  refine AC.left (AC.body tokT Try.func112 rfl rfl rfl (by decide) (by rfl) ?_)
  have hw := w.prev
  have hr := w.root
  have hHL : h.prev ++ h.root ++ putL h.work ++ putL h.nonce = headL h := rfl
  have hlen := headL_len w
  refine AW.pre tokT (fun _ => true) ?_; (conv => whnf)
  refine AW.seq (AW.drawT (.pure 1 (.pure 2 (.pure 4 (.pure 5 (.pure 7 (.pure 8 (.pure 9 (.pure 10 (.alt 0 (.alt 3 (.alt 6 (.one 11 (.one 12 (.pure 13 .fin))) (.one 11 (.one 6 (.one 12 (.pure 13 .fin))))) (.one 11 (.one 3 (.one 6 (.one 12 (.pure 13 .fin)))))) (.one 11 (.one 0 (.one 3 (.one 6 (.one 12 (.pure 13 .fin))))))))))))))) (keep := fun _ => true) mixed_okC tokT (by kernel_rfl) (by kernel_rfl) ?_)
  ((conv => whnf); (repeat (((refine Exists.intro _ (And.intro (by ((conv => whnf); (repeat ((refine And.intro (by exact rfl) ?_); (conv => whnf))))) ?_)); (conv => whnf)))))
  refine Both.mk ?_ ?_
  · ((conv => whnf); (repeat (((with_reducible (refine And.intro (show Go.Aw.againsK _ _ _ _ _ from ?_) ?_)); (focus (repeat' (first | ((with_reducible (show Go.Aw.againsK _ _ _ _ _)); (conv => whnf)) | ((with_reducible (show Go.Aw.againK _ _ _ _ _)); (conv => whnf)) | (with_reducible (exact True.intro)) | (with_reducible (refine And.intro ?_ ?_)) | exact rfl))); (conv => whnf)))))
    refine Both.mk ?_ ?_
    · (conv => whnf)
      refine AC.frame (inkH_nil h.prev false hw) [1] (by (repeat' (first | exact True.intro | exact rfl | refine And.intro ?_ ?_))) (by rfl) (by (repeat' (first | exact True.intro | refine And.intro ?_ ?_ | (simp [AV.ren, AV.rens, AObj.ren, Ent.ren, AV.inn, AV.inns, AObj.inn, *]; done)))) (by rfl) ?_
      rintro r0 hp0 ⟨rfl, rfl⟩
      ((conv => whnf); (repeat (((with_reducible (refine And.intro (show Go.Aw.againsK _ _ _ _ _ from ?_) ?_)); (focus (repeat' (first | ((with_reducible (show Go.Aw.againsK _ _ _ _ _)); (conv => whnf)) | ((with_reducible (show Go.Aw.againK _ _ _ _ _)); (conv => whnf)) | (with_reducible (exact True.intro)) | (with_reducible (refine And.intro ?_ ?_)) | exact rfl))); (conv => whnf)))))
      refine Both.mk ?_ ?_
      · (conv => whnf)
        refine AC.frame (inkH_ok h.prev h.root false (by omega) hr) [1, 2] (by (repeat' (first | exact True.intro | exact rfl | refine And.intro ?_ ?_ | (simp [AV.ren, AV.rens, AObj.ren, Ent.ren, AV.inn, AV.inns, AObj.inn, *]; done)))) (by rfl) (by (repeat' (first | exact True.intro | refine And.intro ?_ ?_ | (simp [AV.ren, AV.rens, AObj.ren, Ent.ren, AV.inn, AV.inns, AObj.inn, *]; done)))) (by rfl) ?_
        rintro r0 hp0 ⟨rfl, rfl⟩
        ((conv => whnf); (repeat (((with_reducible (refine And.intro (show Go.Aw.againsK _ _ _ _ _ from ?_) ?_)); (focus (repeat' (first | ((with_reducible (show Go.Aw.againsK _ _ _ _ _)); (conv => whnf)) | ((with_reducible (show Go.Aw.againK _ _ _ _ _)); (conv => whnf)) | (with_reducible (exact True.intro)) | (with_reducible (refine And.intro ?_ ?_)) | exact rfl))); (conv => whnf)))))
        refine AC.frame (inkN_ok (h.prev ++ h.root) h.work h.nonce (some 2) (by simp only [List.length_append]; omega) h1 h2) [1, 3, 4] (by (repeat' (first | exact True.intro | exact rfl | refine And.intro ?_ ?_ | (simp [AV.ren, AV.rens, AObj.ren, Ent.ren, AV.inn, AV.inns, AObj.inn, *]; done)))) (by rfl) (by (repeat' (first | exact True.intro | refine And.intro ?_ ?_ | (simp [AV.ren, AV.rens, AObj.ren, Ent.ren, AV.inn, AV.inns, AObj.inn, *]; done)))) (by rfl) ?_
        rintro r0 hp0 ⟨rfl, rfl⟩
        ((conv => whnf); (repeat (first | ((with_reducible (refine And.intro (show Go.Aw.againsK _ _ _ _ _ from ?_) ?_)); (focus (repeat' (first | ((with_reducible (show Go.Aw.againsK _ _ _ _ _)); (conv => whnf)) | ((with_reducible (show Go.Aw.againK _ _ _ _ _)); (conv => whnf)) | (with_reducible (exact True.intro)) | (with_reducible (refine And.intro ?_ ?_)) | exact rfl))); (conv => whnf)) | ((refine Exists.intro _ (And.intro (by ((conv => whnf); (repeat ((refine And.intro (by exact rfl) ?_); (conv => whnf))))) ?_)); (conv => whnf)))))
        rw [hHL]
        refine ev_sound tokT (keep := fun _ => true) ?_
        (conv => whnf)
        (refine Left.of [1, 5] (.ptr 0 0 0 0) [⟨2, false, none, .var [.sl 1 0 (headL h).length none, .bool false]⟩, ⟨1, false, none, .ints .u8 (headL h)⟩] (by rfl) (by rfl) (by rfl) (by (repeat' (first | exact True.intro | exact rfl | refine And.intro ?_ ?_ | (simp [AV.ren, AV.rens, AObj.ren, Ent.ren, AV.inn, AV.inns, AObj.inn, *]; done)))) (by rfl) (by (repeat' (first | exact True.intro | exact rfl | refine And.intro ?_ ?_ | (simp [AV.ren, AV.rens, AObj.ren, Ent.ren, AV.inn, AV.inns, AObj.inn, *]; done)))) ?_)
        exact ⟨rfl, rfl⟩
      · ((conv => whnf); (repeat (((with_reducible (refine And.intro (show Go.Aw.againsK _ _ _ _ _ from ?_) ?_)); (focus (repeat' (first | ((with_reducible (show Go.Aw.againsK _ _ _ _ _)); (conv => whnf)) | ((with_reducible (show Go.Aw.againK _ _ _ _ _)); (conv => whnf)) | (with_reducible (exact True.intro)) | (with_reducible (refine And.intro ?_ ?_)) | exact rfl))); (conv => whnf)))))
        refine AC.frame (inkH_ok h.prev h.root false (by omega) hr) [1, 2] (by (repeat' (first | exact True.intro | exact rfl | refine And.intro ?_ ?_ | (simp [AV.ren, AV.rens, AObj.ren, Ent.ren, AV.inn, AV.inns, AObj.inn, *]; done)))) (by rfl) (by (repeat' (first | exact True.intro | refine And.intro ?_ ?_ | (simp [AV.ren, AV.rens, AObj.ren, Ent.ren, AV.inn, AV.inns, AObj.inn, *]; done)))) (by rfl) ?_
        rintro r0 hp0 ⟨rfl, rfl⟩
        ((conv => whnf); (repeat (((with_reducible (refine And.intro (show Go.Aw.againsK _ _ _ _ _ from ?_) ?_)); (focus (repeat' (first | ((with_reducible (show Go.Aw.againsK _ _ _ _ _)); (conv => whnf)) | ((with_reducible (show Go.Aw.againK _ _ _ _ _)); (conv => whnf)) | (with_reducible (exact True.intro)) | (with_reducible (refine And.intro ?_ ?_)) | exact rfl))); (conv => whnf)))))
        refine AC.frame (inkN_ok (h.prev ++ h.root) h.work h.nonce (some 2) (by simp only [List.length_append]; omega) h1 h2) [1, 4, 3] (by (repeat' (first | exact True.intro | exact rfl | refine And.intro ?_ ?_ | (simp [AV.ren, AV.rens, AObj.ren, Ent.ren, AV.inn, AV.inns, AObj.inn, *]; done)))) (by rfl) (by (repeat' (first | exact True.intro | refine And.intro ?_ ?_ | (simp [AV.ren, AV.rens, AObj.ren, Ent.ren, AV.inn, AV.inns, AObj.inn, *]; done)))) (by rfl) ?_
        rintro r0 hp0 ⟨rfl, rfl⟩
        ((conv => whnf); (repeat (first | ((with_reducible (refine And.intro (show Go.Aw.againsK _ _ _ _ _ from ?_) ?_)); (focus (repeat' (first | ((with_reducible (show Go.Aw.againsK _ _ _ _ _)); (conv => whnf)) | ((with_reducible (show Go.Aw.againK _ _ _ _ _)); (conv => whnf)) | (with_reducible (exact True.intro)) | (with_reducible (refine And.intro ?_ ?_)) | exact rfl))); (conv => whnf)) | ((refine Exists.intro _ (And.intro (by ((conv => whnf); (repeat ((refine And.intro (by exact rfl) ?_); (conv => whnf))))) ?_)); (conv => whnf)))))
        rw [hHL]
        refine ev_sound tokT (keep := fun _ => true) ?_
        (conv => whnf)
        (refine Left.of [1, 5] (.ptr 0 0 0 0) [⟨2, false, none, .var [.sl 1 0 (headL h).length none, .bool false]⟩, ⟨1, false, none, .ints .u8 (headL h)⟩] (by rfl) (by rfl) (by rfl) (by (repeat' (first | exact True.intro | exact rfl | refine And.intro ?_ ?_ | (simp [AV.ren, AV.rens, AObj.ren, Ent.ren, AV.inn, AV.inns, AObj.inn, *]; done)))) (by rfl) (by (repeat' (first | exact True.intro | exact rfl | refine And.intro ?_ ?_ | (simp [AV.ren, AV.rens, AObj.ren, Ent.ren, AV.inn, AV.inns, AObj.inn, *]; done)))) ?_)
        exact ⟨rfl, rfl⟩
    · ((conv => whnf); (repeat (((with_reducible (refine And.intro (show Go.Aw.againsK _ _ _ _ _ from ?_) ?_)); (focus (repeat' (first | ((with_reducible (show Go.Aw.againsK _ _ _ _ _)); (conv => whnf)) | ((with_reducible (show Go.Aw.againK _ _ _ _ _)); (conv => whnf)) | (with_reducible (exact True.intro)) | (with_reducible (refine And.intro ?_ ?_)) | exact rfl))); (conv => whnf)))))
      refine AC.frame (inkH_nil h.prev false hw) [1] (by (repeat' (first | exact True.intro | exact rfl | refine And.intro ?_ ?_))) (by rfl) (by (repeat' (first | exact True.intro | refine And.intro ?_ ?_ | (simp [AV.ren, AV.rens, AObj.ren, Ent.ren, AV.inn, AV.inns, AObj.inn, *]; done)))) (by rfl) ?_
      rintro r0 hp0 ⟨rfl, rfl⟩
      ((conv => whnf); (repeat (((with_reducible (refine And.intro (show Go.Aw.againsK _ _ _ _ _ from ?_) ?_)); (focus (repeat' (first | ((with_reducible (show Go.Aw.againsK _ _ _ _ _)); (conv => whnf)) | ((with_reducible (show Go.Aw.againK _ _ _ _ _)); (conv => whnf)) | (with_reducible (exact True.intro)) | (with_reducible (refine And.intro ?_ ?_)) | exact rfl))); (conv => whnf)))))
      refine AC.frame (inkH_ok h.prev h.root false (by omega) hr) [1, 3] (by (repeat' (first | exact True.intro | exact rfl | refine And.intro ?_ ?_ | (simp [AV.ren, AV.rens, AObj.ren, Ent.ren, AV.inn, AV.inns, AObj.inn, *]; done)))) (by rfl) (by (repeat' (first | exact True.intro | refine And.intro ?_ ?_ | (simp [AV.ren, AV.rens, AObj.ren, Ent.ren, AV.inn, AV.inns, AObj.inn, *]; done)))) (by rfl) ?_
      rintro r0 hp0 ⟨rfl, rfl⟩
      ((conv => whnf); (repeat (((with_reducible (refine And.intro (show Go.Aw.againsK _ _ _ _ _ from ?_) ?_)); (focus (repeat' (first | ((with_reducible (show Go.Aw.againsK _ _ _ _ _)); (conv => whnf)) | ((with_reducible (show Go.Aw.againK _ _ _ _ _)); (conv => whnf)) | (with_reducible (exact True.intro)) | (with_reducible (refine And.intro ?_ ?_)) | exact rfl))); (conv => whnf)))))
      refine AC.frame (inkN_ok (h.prev ++ h.root) h.work h.nonce (some 2) (by simp only [List.length_append]; omega) h1 h2) [1, 4, 2] (by (repeat' (first | exact True.intro | exact rfl | refine And.intro ?_ ?_ | (simp [AV.ren, AV.rens, AObj.ren, Ent.ren, AV.inn, AV.inns, AObj.inn, *]; done)))) (by rfl) (by (repeat' (first | exact True.intro | refine And.intro ?_ ?_ | (simp [AV.ren, AV.rens, AObj.ren, Ent.ren, AV.inn, AV.inns, AObj.inn, *]; done)))) (by rfl) ?_
      rintro r0 hp0 ⟨rfl, rfl⟩
      ((conv => whnf); (repeat (first | ((with_reducible (refine And.intro (show Go.Aw.againsK _ _ _ _ _ from ?_) ?_)); (focus (repeat' (first | ((with_reducible (show Go.Aw.againsK _ _ _ _ _)); (conv => whnf)) | ((with_reducible (show Go.Aw.againK _ _ _ _ _)); (conv => whnf)) | (with_reducible (exact True.intro)) | (with_reducible (refine And.intro ?_ ?_)) | exact rfl))); (conv => whnf)) | ((refine Exists.intro _ (And.intro (by ((conv => whnf); (repeat ((refine And.intro (by exact rfl) ?_); (conv => whnf))))) ?_)); (conv => whnf)))))
      rw [hHL]
      refine ev_sound tokT (keep := fun _ => true) ?_
      (conv => whnf)
      (refine Left.of [1, 5] (.ptr 0 0 0 0) [⟨2, false, none, .var [.sl 1 0 (headL h).length none, .bool false]⟩, ⟨1, false, none, .ints .u8 (headL h)⟩] (by rfl) (by rfl) (by rfl) (by (repeat' (first | exact True.intro | exact rfl | refine And.intro ?_ ?_ | (simp [AV.ren, AV.rens, AObj.ren, Ent.ren, AV.inn, AV.inns, AObj.inn, *]; done)))) (by rfl) (by (repeat' (first | exact True.intro | exact rfl | refine And.intro ?_ ?_ | (simp [AV.ren, AV.rens, AObj.ren, Ent.ren, AV.inn, AV.inns, AObj.inn, *]; done)))) ?_)
      exact ⟨rfl, rfl⟩
  · ((conv => whnf); (repeat (((with_reducible (refine And.intro (show Go.Aw.againsK _ _ _ _ _ from ?_) ?_)); (focus (repeat' (first | ((with_reducible (show Go.Aw.againsK _ _ _ _ _)); (conv => whnf)) | ((with_reducible (show Go.Aw.againK _ _ _ _ _)); (conv => whnf)) | (with_reducible (exact True.intro)) | (with_reducible (refine And.intro ?_ ?_)) | exact rfl))); (conv => whnf)))))
    refine AC.frame (inkH_nil h.prev false hw) [2] (by (repeat' (first | exact True.intro | exact rfl | refine And.intro ?_ ?_))) (by rfl) (by (repeat' (first | exact True.intro | refine And.intro ?_ ?_ | (simp [AV.ren, AV.rens, AObj.ren, Ent.ren, AV.inn, AV.inns, AObj.inn, *]; done)))) (by rfl) ?_
    rintro r0 hp0 ⟨rfl, rfl⟩
    ((conv => whnf); (repeat (((with_reducible (refine And.intro (show Go.Aw.againsK _ _ _ _ _ from ?_) ?_)); (focus (repeat' (first | ((with_reducible (show Go.Aw.againsK _ _ _ _ _)); (conv => whnf)) | ((with_reducible (show Go.Aw.againK _ _ _ _ _)); (conv => whnf)) | (with_reducible (exact True.intro)) | (with_reducible (refine And.intro ?_ ?_)) | exact rfl))); (conv => whnf)))))
    refine AC.frame (inkH_ok h.prev h.root false (by omega) hr) [2, 3] (by (repeat' (first | exact True.intro | exact rfl | refine And.intro ?_ ?_ | (simp [AV.ren, AV.rens, AObj.ren, Ent.ren, AV.inn, AV.inns, AObj.inn, *]; done)))) (by rfl) (by (repeat' (first | exact True.intro | refine And.intro ?_ ?_ | (simp [AV.ren, AV.rens, AObj.ren, Ent.ren, AV.inn, AV.inns, AObj.inn, *]; done)))) (by rfl) ?_
    rintro r0 hp0 ⟨rfl, rfl⟩
    ((conv => whnf); (repeat (((with_reducible (refine And.intro (show Go.Aw.againsK _ _ _ _ _ from ?_) ?_)); (focus (repeat' (first | ((with_reducible (show Go.Aw.againsK _ _ _ _ _)); (conv => whnf)) | ((with_reducible (show Go.Aw.againK _ _ _ _ _)); (conv => whnf)) | (with_reducible (exact True.intro)) | (with_reducible (refine And.intro ?_ ?_)) | exact rfl))); (conv => whnf)))))
    refine AC.frame (inkN_ok (h.prev ++ h.root) h.work h.nonce (some 2) (by simp only [List.length_append]; omega) h1 h2) [2, 4, 1] (by (repeat' (first | exact True.intro | exact rfl | refine And.intro ?_ ?_ | (simp [AV.ren, AV.rens, AObj.ren, Ent.ren, AV.inn, AV.inns, AObj.inn, *]; done)))) (by rfl) (by (repeat' (first | exact True.intro | refine And.intro ?_ ?_ | (simp [AV.ren, AV.rens, AObj.ren, Ent.ren, AV.inn, AV.inns, AObj.inn, *]; done)))) (by rfl) ?_
    rintro r0 hp0 ⟨rfl, rfl⟩
    ((conv => whnf); (repeat (first | ((with_reducible (refine And.intro (show Go.Aw.againsK _ _ _ _ _ from ?_) ?_)); (focus (repeat' (first | ((with_reducible (show Go.Aw.againsK _ _ _ _ _)); (conv => whnf)) | ((with_reducible (show Go.Aw.againK _ _ _ _ _)); (conv => whnf)) | (with_reducible (exact True.intro)) | (with_reducible (refine And.intro ?_ ?_)) | exact rfl))); (conv => whnf)) | ((refine Exists.intro _ (And.intro (by ((conv => whnf); (repeat ((refine And.intro (by exact rfl) ?_); (conv => whnf))))) ?_)); (conv => whnf)))))
    rw [hHL]
    refine ev_sound tokT (keep := fun _ => true) ?_
    (conv => whnf)
    (refine Left.of [2, 5] (.ptr 0 0 0 0) [⟨2, false, none, .var [.sl 1 0 (headL h).length none, .bool false]⟩, ⟨1, false, none, .ints .u8 (headL h)⟩] (by rfl) (by rfl) (by rfl) (by (repeat' (first | exact True.intro | exact rfl | refine And.intro ?_ ?_ | (simp [AV.ren, AV.rens, AObj.ren, Ent.ren, AV.inn, AV.inns, AObj.inn, *]; done)))) (by rfl) (by (repeat' (first | exact True.intro | exact rfl | refine And.intro ?_ ?_ | (simp [AV.ren, AV.rens, AObj.ren, Ent.ren, AV.inn, AV.inns, AObj.inn, *]; done)))) ?_)
    exact ⟨rfl, rfl⟩

theorem twice1_ok (xs : List Int) (off len : Nat) (cap c0 : Option Nat) (hol : off + len ≤ xs.length) (hl : len ≤ 1152921504606846976) :
    AC Try.prog 32 [.sl 0 0 1 c0] [⟨1, true, none, .row [[.sl 1 off len cap]]⟩, ⟨1, true, none, .ints .u8 xs⟩]
      (fun r hp' => r = .agg [.ints .u8 32 (shaL (shaL ((xs.drop off).take len)))] ∧ hp' = [⟨1, true, none, .row [[.sl 1 off len cap]]⟩, ⟨1, true, none, .ints .u8 xs⟩]) := by
  have h := twice_ok xs [(off, len, cap)] c0 (by intro p hp; simp at hp; subst hp; exact hol) (by simp) (by simp [catP, Piece.cut]; omega)
  have e : catP xs [(off, len, cap)] = (xs.drop off).take len := by simp [catP, Piece.cut]
  rw [e] at h
  exact h

theorem id_ok (h : Hdr) (w : h.wf) (h1 : okN h.work) (h2 : okN h.nonce) :
    AC Try.prog 89 [h.av] [] (fun r hp' => r = .agg [.ints .u8 32 (hidOf h)] ∧ hp' = []) := by
  refine AC.left (AC.body tokT Try.func89 rfl rfl rfl (by decide) (by rfl) ?_)
  have hlen := headL_len w
  obtain ⟨L, hL⟩ : ∃ L, headL h = L := ⟨_, rfl⟩
  have hid : hidOf h = shaL (shaL L) := by rw [hid_ok h1 h2, hL]
  have hh := head_ok h w h1 h2
  rw [hL] at hh hlen
  have e1 : (L.drop 0).take L.length = L := by rw [List.drop_zero, List.take_length]
  have h32 : (shaL (shaL L)).length = 32 := shaL_length _
  have ht := twice1_ok L 0 L.length none (some 1) (by omega) (by omega)
  rw [e1] at ht
  rw [hid]
  obtain ⟨D, hD⟩ : ∃ D, shaL (shaL L) = D := ⟨_, rfl⟩
  rw [hD] at ht h32 ⊢
  refine AW.pre tokT (fun _ => true) ?_; (conv => whnf)
  refine AW.pre tokT (fun _ => true) ?_; (conv => whnf)
  refine AC.frame hh [] (by (repeat' (exact True.intro))) (by rfl) (by (repeat' (first | exact True.intro | refine And.intro ?_ ?_))) (by rfl) ?_
  rintro r0 hp0 ⟨rfl, rfl⟩
  (conv => whnf)
  refine AW.pre tokT (fun _ => true) ?_; (conv => whnf)
  refine ev_sound tokT (keep := fun _ => true) ?_
  (conv => whnf)
  refine AC.frame ht [4, 3] (by (repeat' (first | exact True.intro | exact rfl | refine And.intro ?_ ?_ | (simp [AV.ren, AV.rens, AObj.ren, Ent.ren, AV.inn, AV.inns, AObj.inn, *]; done)))) (by rfl) (by (repeat' (first | exact True.intro | refine And.intro ?_ ?_ | (simp [AV.ren, AV.rens, AObj.ren, Ent.ren, AV.inn, AV.inns, AObj.inn, *]; done)))) (by rfl) ?_
  rintro r0 hp0 ⟨rfl, rfl⟩
  (conv => whnf)
  (refine Left.of [] (.agg [.ints .u8 32 D]) [] (by rfl) (by rfl) (by rfl) (by (repeat' (first | exact True.intro | refine And.intro ?_ ?_))) (by rfl) (by (repeat' (first | exact True.intro | refine And.intro ?_ ?_))) ?_)
  exact ⟨rfl, rfl⟩
end Go.Aw
end

section
/-
  AwCh2: the other reading's hash of a header. Own work.
-/
set_option linter.unusedVariables false
set_option linter.unusedSimpArgs false
set_option maxRecDepth 20000
open Go.Proofs
namespace Go.Aw

theorem heading_ok (h : Hdr) (w : h.wf) (h1 : okN h.work) (h2 : okN h.nonce) :
    AC Try.prog 90 [h.av] [] (fun r hp' => r = .sl 0 0 (headL h).length none ∧ hp' = [⟨1, false, none, .ints .u8 (headL h)⟩]) := by
  refine AC.left (AC.body tokT Try.func90 rfl rfl rfl (by decide) (by rfl) ?_)
  have hw := w.prev
  have hr := w.root
  have hHL : h.prev ++ h.root ++ putL h.work ++ putL h.nonce = headL h := rfl
  have hlen := headL_len w
  have e0 : (([] : List Int).drop 0).take 0 = [] := rfl
  have e1 : (h.prev.drop 0).take (32 - 0) = h.prev := by rw [List.drop_zero, List.take_of_length_le (by omega)]
  have e2 : (h.root.drop 0).take (32 - 0) = h.root := by rw [List.drop_zero, List.take_of_length_le (by omega)]
  have e3 : (h.prev.drop 0).take h.prev.length = h.prev := by rw [List.drop_zero, List.take_length]
  have e4 : h.prev.length + h.root.length = (h.prev ++ h.root).length := by simp
  refine AW.pre tokT (fun _ => true) ?_; (conv => whnf)
  refine AW.cutT (fun fr hp => fr = [(1, .ptr 0 0 0 0), (3, .sl 1 0 (h.prev ++ h.root).length none)] ∧ hp = [⟨66, false, none, .var h.segs⟩, ⟨1, false, none, .ints .u8 (h.prev ++ h.root)⟩]) ?_ ?_
  · refine AW.drawT (.pure 1 (.pure 4 (.alt 0 (.alt 2 (.alt 3 (.one 5 (.one 6 (.pure 7 .fin))) (.one 5 (.one 3 (.one 6 (.pure 7 .fin))))) (.one 5 (.one 2 (.one 3 (.one 6 (.pure 7 .fin)))))) (.alt 2 (.alt 0 (.alt 3 (.one 5 (.one 6 (.pure 7 .fin))) (.one 5 (.one 3 (.one 6 (.pure 7 .fin))))) (.one 5 (.one 0 (.one 3 (.one 6 (.pure 7 .fin)))))) (.one 5 (.alt 0 (.one 2 (.one 3 (.one 6 (.pure 7 .fin)))) (.one 2 (.one 0 (.one 3 (.one 6 (.pure 7 .fin))))))))))) (keep := fun _ => true) mixed_okC tokT (by kernel_rfl) (by kernel_rfl) ?_
    ((conv => whnf); (repeat (((refine Exists.intro _ (And.intro (by ((conv => whnf); (repeat ((refine And.intro (by exact rfl) ?_); (conv => whnf))))) ?_)); (conv => whnf)))))
    refine Both.mk ?_ ?_
    · ((conv => whnf); (repeat (((with_reducible (refine And.intro (show Go.Aw.againsK _ _ _ _ _ from ?_) ?_)); (focus (repeat' (first | ((with_reducible (show Go.Aw.againsK _ _ _ _ _)); (conv => whnf)) | ((with_reducible (show Go.Aw.againK _ _ _ _ _)); (conv => whnf)) | (with_reducible (exact True.intro)) | (with_reducible (refine And.intro ?_ ?_)) | exact rfl))); (conv => whnf)))))
      refine Both.mk ?_ ?_
      · ((conv => whnf); (repeat (first | ((with_reducible (refine And.intro (show Go.Aw.againsK _ _ _ _ _ from ?_) ?_)); (focus (repeat' (first | ((with_reducible (show Go.Aw.againsK _ _ _ _ _)); (conv => whnf)) | ((with_reducible (show Go.Aw.againK _ _ _ _ _)); (conv => whnf)) | (with_reducible (exact True.intro)) | (with_reducible (refine And.intro ?_ ?_)) | exact rfl))); (conv => whnf)) | ((refine And.intro (by omega) ?_); (conv => whnf)))))
        refine Both.mk ?_ ?_
        · ((conv => whnf); (repeat (first | ((with_reducible (refine And.intro (show Go.Aw.againsK _ _ _ _ _ from ?_) ?_)); (focus (repeat' (first | ((with_reducible (show Go.Aw.againsK _ _ _ _ _)); (conv => whnf)) | ((with_reducible (show Go.Aw.againK _ _ _ _ _)); (conv => whnf)) | (with_reducible (exact True.intro)) | (with_reducible (refine And.intro ?_ ?_)) | exact rfl))); (conv => whnf)) | ((refine And.intro (by first | omega | (simp; done) | (simp [roomMost]; omega)) ?_); (conv => whnf)) | ((refine Exists.intro _ (And.intro (by ((conv => whnf); (repeat ((refine And.intro (by exact rfl) ?_); (conv => whnf))))) ?_)); (conv => whnf)))))
          rw [e1, e0, List.nil_append, Nat.zero_add h.prev.length, e3, e2, e4]
          (refine Turned.of [0, 5] [(1, .ptr 0 0 0 0), (3, .sl 1 0 (h.prev ++ h.root).length none)] [⟨66, false, none, .var h.segs⟩, ⟨1, false, none, .ints .u8 (h.prev ++ h.root)⟩] (by rfl) (by rfl) (by rfl) (by (repeat' (first | exact True.intro | exact rfl | refine And.intro ?_ ?_ | (simp [AV.ren, AV.rens, AObj.ren, Ent.ren, AV.inn, AV.inns, AObj.inn, *]; done)))) (by (repeat' (first | exact True.intro | exact rfl | refine And.intro ?_ ?_ | (simp [AV.ren, AV.rens, AObj.ren, Ent.ren, AV.inn, AV.inns, AObj.inn, *]; done)))) ?_)
          exact ⟨rfl, rfl⟩
        · ((conv => whnf); (repeat (first | ((with_reducible (refine And.intro (show Go.Aw.againsK _ _ _ _ _ from ?_) ?_)); (focus (repeat' (first | ((with_reducible (show Go.Aw.againsK _ _ _ _ _)); (conv => whnf)) | (with_reducible (exact True.intro))))); (conv => whnf)) | ((refine And.intro (by first | omega | (simp; done) | (simp [roomMost]; omega)) ?_); (conv => whnf)) | ((refine Exists.intro _ (And.intro (by ((conv => whnf); (repeat ((refine And.intro (by exact rfl) ?_); (conv => whnf))))) ?_)); (conv => whnf)))))
          rw [e1, e0, List.nil_append, Nat.zero_add h.prev.length, e3, e2, e4]
          (refine Turned.of [0, 5] [(1, .ptr 0 0 0 0), (3, .sl 1 0 (h.prev ++ h.root).length none)] [⟨66, false, none, .var h.segs⟩, ⟨1, false, none, .ints .u8 (h.prev ++ h.root)⟩] (by rfl) (by rfl) (by rfl) (by (repeat' (first | exact True.intro | exact rfl | refine And.intro ?_ ?_ | (simp [AV.ren, AV.rens, AObj.ren, Ent.ren, AV.inn, AV.inns, AObj.inn, *]; done)))) (by (repeat' (first | exact True.intro | exact rfl | refine And.intro ?_ ?_ | (simp [AV.ren, AV.rens, AObj.ren, Ent.ren, AV.inn, AV.inns, AObj.inn, *]; done)))) ?_)
          exact ⟨rfl, rfl⟩
      · ((conv => whnf); (repeat (first | ((with_reducible (refine And.intro (show Go.Aw.againsK _ _ _ _ _ from ?_) ?_)); (focus (repeat' (first | ((with_reducible (show Go.Aw.againsK _ _ _ _ _)); (conv => whnf)) | ((with_reducible (show Go.Aw.againK _ _ _ _ _)); (conv => whnf)) | (with_reducible (exact True.intro)) | (with_reducible (refine And.intro ?_ ?_)) | exact rfl))); (conv => whnf)) | ((refine And.intro (by first | omega | (simp; done) | (simp [roomMost]; omega)) ?_); (conv => whnf)) | ((refine Exists.intro _ (And.intro (by ((conv => whnf); (repeat ((refine And.intro (by exact rfl) ?_); (conv => whnf))))) ?_)); (conv => whnf)))))
        rw [e1, e0, List.nil_append, Nat.zero_add h.prev.length, e3, e2, e4]
        (refine Turned.of [0, 5] [(1, .ptr 0 0 0 0), (3, .sl 1 0 (h.prev ++ h.root).length none)] [⟨66, false, none, .var h.segs⟩, ⟨1, false, none, .ints .u8 (h.prev ++ h.root)⟩] (by rfl) (by rfl) (by rfl) (by (repeat' (first | exact True.intro | exact rfl | refine And.intro ?_ ?_ | (simp [AV.ren, AV.rens, AObj.ren, Ent.ren, AV.inn, AV.inns, AObj.inn, *]; done)))) (by (repeat' (first | exact True.intro | exact rfl | refine And.intro ?_ ?_ | (simp [AV.ren, AV.rens, AObj.ren, Ent.ren, AV.inn, AV.inns, AObj.inn, *]; done)))) ?_)
        exact ⟨rfl, rfl⟩
    · (conv => whnf)
      refine Both.mk ?_ ?_
      · ((conv => whnf); (repeat (first | ((with_reducible (refine And.intro (show Go.Aw.againsK _ _ _ _ _ from ?_) ?_)); (focus (repeat' (first | ((with_reducible (show Go.Aw.againsK _ _ _ _ _)); (conv => whnf)) | ((with_reducible (show Go.Aw.againK _ _ _ _ _)); (conv => whnf)) | (with_reducible (exact True.intro)) | (with_reducible (refine And.intro ?_ ?_)) | exact rfl))); (conv => whnf)) | ((refine And.intro (by omega) ?_); (conv => whnf)))))
        refine Both.mk ?_ ?_
        · ((conv => whnf); (repeat (((with_reducible (refine And.intro (show Go.Aw.againsK _ _ _ _ _ from ?_) ?_)); (focus (repeat' (first | ((with_reducible (show Go.Aw.againsK _ _ _ _ _)); (conv => whnf)) | ((with_reducible (show Go.Aw.againK _ _ _ _ _)); (conv => whnf)) | (with_reducible (exact True.intro)) | (with_reducible (refine And.intro ?_ ?_)) | exact rfl))); (conv => whnf)))))
          refine Both.mk ?_ ?_
          · ((conv => whnf); (repeat (first | ((with_reducible (refine And.intro (show Go.Aw.againsK _ _ _ _ _ from ?_) ?_)); (focus (repeat' (first | ((with_reducible (show Go.Aw.againsK _ _ _ _ _)); (conv => whnf)) | ((with_reducible (show Go.Aw.againK _ _ _ _ _)); (conv => whnf)) | (with_reducible (exact True.intro)) | (with_reducible (refine And.intro ?_ ?_)) | exact rfl))); (conv => whnf)) | ((refine And.intro (by first | omega | (simp; done) | (simp [roomMost]; omega)) ?_); (conv => whnf)) | ((refine Exists.intro _ (And.intro (by ((conv => whnf); (repeat ((refine And.intro (by exact rfl) ?_); (conv => whnf))))) ?_)); (conv => whnf)))))
            rw [e1, e0, List.nil_append, Nat.zero_add h.prev.length, e3, e2, e4]
            (refine Turned.of [0, 5] [(1, .ptr 0 0 0 0), (3, .sl 1 0 (h.prev ++ h.root).length none)] [⟨66, false, none, .var h.segs⟩, ⟨1, false, none, .ints .u8 (h.prev ++ h.root)⟩] (by rfl) (by rfl) (by rfl) (by (repeat' (first | exact True.intro | exact rfl | refine And.intro ?_ ?_ | (simp [AV.ren, AV.rens, AObj.ren, Ent.ren, AV.inn, AV.inns, AObj.inn, *]; done)))) (by (repeat' (first | exact True.intro | exact rfl | refine And.intro ?_ ?_ | (simp [AV.ren, AV.rens, AObj.ren, Ent.ren, AV.inn, AV.inns, AObj.inn, *]; done)))) ?_)
            exact ⟨rfl, rfl⟩
          · ((conv => whnf); (repeat (first | ((with_reducible (refine And.intro (show Go.Aw.againsK _ _ _ _ _ from ?_) ?_)); (focus (repeat' (first | ((with_reducible (show Go.Aw.againsK _ _ _ _ _)); (conv => whnf)) | (with_reducible (exact True.intro))))); (conv => whnf)) | ((refine And.intro (by first | omega | (simp; done) | (simp [roomMost]; omega)) ?_); (conv => whnf)) | ((refine Exists.intro _ (And.intro (by ((conv => whnf); (repeat ((refine And.intro (by exact rfl) ?_); (conv => whnf))))) ?_)); (conv => whnf)))))
            rw [e1, e0, List.nil_append, Nat.zero_add h.prev.length, e3, e2, e4]
            (refine Turned.of [0, 5] [(1, .ptr 0 0 0 0), (3, .sl 1 0 (h.prev ++ h.root).length none)] [⟨66, false, none, .var h.segs⟩, ⟨1, false, none, .ints .u8 (h.prev ++ h.root)⟩] (by rfl) (by rfl) (by rfl) (by (repeat' (first | exact True.intro | exact rfl | refine And.intro ?_ ?_ | (simp [AV.ren, AV.rens, AObj.ren, Ent.ren, AV.inn, AV.inns, AObj.inn, *]; done)))) (by (repeat' (first | exact True.intro | exact rfl | refine And.intro ?_ ?_ | (simp [AV.ren, AV.rens, AObj.ren, Ent.ren, AV.inn, AV.inns, AObj.inn, *]; done)))) ?_)
            exact ⟨rfl, rfl⟩
        · ((conv => whnf); (repeat (first | ((with_reducible (refine And.intro (show Go.Aw.againsK _ _ _ _ _ from ?_) ?_)); (focus (repeat' (first | ((with_reducible (show Go.Aw.againsK _ _ _ _ _)); (conv => whnf)) | (with_reducible (exact True.intro))))); (conv => whnf)) | ((refine And.intro (by first | omega | (simp; done) | (simp [roomMost]; omega)) ?_); (conv => whnf)) | ((refine Exists.intro _ (And.intro (by ((conv => whnf); (repeat ((refine And.intro (by exact rfl) ?_); (conv => whnf))))) ?_)); (conv => whnf)))))
          rw [e1, e0, List.nil_append, Nat.zero_add h.prev.length, e3, e2, e4]
          (refine Turned.of [0, 5] [(1, .ptr 0 0 0 0), (3, .sl 1 0 (h.prev ++ h.root).length none)] [⟨66, false, none, .var h.segs⟩, ⟨1, false, none, .ints .u8 (h.prev ++ h.root)⟩] (by rfl) (by rfl) (by rfl) (by (repeat' (first | exact True.intro | exact rfl | refine And.intro ?_ ?_ | (simp [AV.ren, AV.rens, AObj.ren, Ent.ren, AV.inn, AV.inns, AObj.inn, *]; done)))) (by (repeat' (first | exact True.intro | exact rfl | refine And.intro ?_ ?_ | (simp [AV.ren, AV.rens, AObj.ren, Ent.ren, AV.inn, AV.inns, AObj.inn, *]; done)))) ?_)
          exact ⟨rfl, rfl⟩
      · ((conv => whnf); (repeat (first | ((with_reducible (refine And.intro (show Go.Aw.againsK _ _ _ _ _ from ?_) ?_)); (focus (repeat' (first | ((with_reducible (show Go.Aw.againsK _ _ _ _ _)); (conv => whnf)) | ((with_reducible (show Go.Aw.againK _ _ _ _ _)); (conv => whnf)) | (with_reducible (exact True.intro)) | (with_reducible (refine And.intro ?_ ?_)) | exact rfl))); (conv => whnf)) | ((refine And.intro (by omega) ?_); (conv => whnf)))))
        refine Both.mk ?_ ?_
        · ((conv => whnf); (repeat (first | ((with_reducible (refine And.intro (show Go.Aw.againsK _ _ _ _ _ from ?_) ?_)); (focus (repeat' (first | ((with_reducible (show Go.Aw.againsK _ _ _ _ _)); (conv => whnf)) | ((with_reducible (show Go.Aw.againK _ _ _ _ _)); (conv => whnf)) | (with_reducible (exact True.intro)) | (with_reducible (refine And.intro ?_ ?_)) | exact rfl))); (conv => whnf)) | ((refine And.intro (by first | omega | (simp; done) | (simp [roomMost]; omega)) ?_); (conv => whnf)) | ((refine Exists.intro _ (And.intro (by ((conv => whnf); (repeat ((refine And.intro (by exact rfl) ?_); (conv => whnf))))) ?_)); (conv => whnf)))))
          rw [e1, e0, List.nil_append, Nat.zero_add h.prev.length, e3, e2, e4]
          (refine Turned.of [0, 5] [(1, .ptr 0 0 0 0), (3, .sl 1 0 (h.prev ++ h.root).length none)] [⟨66, false, none, .var h.segs⟩, ⟨1, false, none, .ints .u8 (h.prev ++ h.root)⟩] (by rfl) (by rfl) (by rfl) (by (repeat' (first | exact True.intro | exact rfl | refine And.intro ?_ ?_ | (simp [AV.ren, AV.rens, AObj.ren, Ent.ren, AV.inn, AV.inns, AObj.inn, *]; done)))) (by (repeat' (first | exact True.intro | exact rfl | refine And.intro ?_ ?_ | (simp [AV.ren, AV.rens, AObj.ren, Ent.ren, AV.inn, AV.inns, AObj.inn, *]; done)))) ?_)
          exact ⟨rfl, rfl⟩
        · ((conv => whnf); (repeat (first | ((with_reducible (refine And.intro (show Go.Aw.againsK _ _ _ _ _ from ?_) ?_)); (focus (repeat' (first | ((with_reducible (show Go.Aw.againsK _ _ _ _ _)); (conv => whnf)) | (with_reducible (exact True.intro))))); (conv => whnf)) | ((refine And.intro (by first | omega | (simp; done) | (simp [roomMost]; omega)) ?_); (conv => whnf)) | ((refine Exists.intro _ (And.intro (by ((conv => whnf); (repeat ((refine And.intro (by exact rfl) ?_); (conv => whnf))))) ?_)); (conv => whnf)))))
          rw [e1, e0, List.nil_append, Nat.zero_add h.prev.length, e3, e2, e4]
          (refine Turned.of [0, 5] [(1, .ptr 0 0 0 0), (3, .sl 1 0 (h.prev ++ h.root).length none)] [⟨66, false, none, .var h.segs⟩, ⟨1, false, none, .ints .u8 (h.prev ++ h.root)⟩] (by rfl) (by rfl) (by rfl) (by (repeat' (first | exact True.intro | exact rfl | refine And.intro ?_ ?_ | (simp [AV.ren, AV.rens, AObj.ren, Ent.ren, AV.inn, AV.inns, AObj.inn, *]; done)))) (by (repeat' (first | exact True.intro | exact rfl | refine And.intro ?_ ?_ | (simp [AV.ren, AV.rens, AObj.ren, Ent.ren, AV.inn, AV.inns, AObj.inn, *]; done)))) ?_)
          exact ⟨rfl, rfl⟩
  · rintro fr hp ⟨rfl, rfl⟩
    have h3 := putL_le' h.work
    have h4 := putL_le' h.nonce
    obtain ⟨X, hX⟩ : ∃ X, h.prev ++ h.root = X := ⟨_, rfl⟩
    rw [hX] at hHL ⊢
    have hXl : X.length = 64 := by rw [← hX, List.length_append]; omega
    have f1 : (X.drop 0).take X.length = X := by rw [List.drop_zero, List.take_length]
    have f2 : ((X ++ putL h.work).drop 0).take (X ++ putL h.work).length = X ++ putL h.work := by rw [List.drop_zero, List.take_length]
    have f3 : ((putL h.work).drop 0).take (putL h.work).length = putL h.work := by rw [List.drop_zero, List.take_length]
    have f4 : ((putL h.nonce).drop 0).take (putL h.nonce).length = putL h.nonce := by rw [List.drop_zero, List.take_length]
    have f5 : X.length + (putL h.work).length = (X ++ putL h.work).length := by simp
    have f6 : (X ++ putL h.work).length + (putL h.nonce).length = (headL h).length := by rw [← hHL]; simp; omega
    refine AW.seq (AW.drawT (.pure 0 (.pure 1 (.pure 2 (.pure 5 (.pure 6 (.one 3 (.one 4 (.one 7 (.one 8 (.pure 9 .fin)))))))))) (keep := fun _ => true) mixed_okC tokT (by kernel_rfl) (by kernel_rfl) ?_)
    ((conv => whnf); (repeat (((refine Exists.intro _ (And.intro (by ((conv => whnf); (repeat ((refine And.intro (by exact rfl) ?_); (conv => whnf))))) ?_)); (conv => whnf)))))
    refine AC.frame (ref_put h.work) [] (by (repeat' (exact True.intro))) (by rfl) (by (repeat' (first | exact True.intro | refine And.intro ?_ ?_))) (by rfl) ?_
    rintro r0 hp0 (⟨_, cap, rfl, rfl⟩ | ⟨hbad, _, _⟩)
    case inr => exact absurd h1 hbad
    ((conv => whnf); (repeat (first | ((with_reducible (refine And.intro (show Go.Aw.againsK _ _ _ _ _ from ?_) ?_)); (focus (repeat' (first | ((with_reducible (show Go.Aw.againsK _ _ _ _ _)); (conv => whnf)) | ((with_reducible (show Go.Aw.againK _ _ _ _ _)); (conv => whnf)) | (with_reducible (exact True.intro)) | (with_reducible (refine And.intro ?_ ?_)) | exact rfl))); (conv => whnf)) | ((refine And.intro (by first | omega | (simp [roomMost]; omega)) ?_); (conv => whnf)))))
    rw [f1, f3, f5]
    refine AC.frame (ref_put h.nonce) [] (by (repeat' (exact True.intro))) (by rfl) (by (repeat' (first | exact True.intro | refine And.intro ?_ ?_))) (by rfl) ?_
    rintro r0 hp0 (⟨_, cap, rfl, rfl⟩ | ⟨hbad, _, _⟩)
    case inr => exact absurd h2 hbad
    ((conv => whnf); (repeat (first | ((with_reducible (refine And.intro (show Go.Aw.againsK _ _ _ _ _ from ?_) ?_)); (focus (repeat' (first | ((with_reducible (show Go.Aw.againsK _ _ _ _ _)); (conv => whnf)) | ((with_reducible (show Go.Aw.againK _ _ _ _ _)); (conv => whnf)) | (with_reducible (exact True.intro)) | (with_reducible (refine And.intro ?_ ?_)) | exact rfl))); (conv => whnf)) | ((refine And.intro (by first | omega | (simp [roomMost]; omega)) ?_); (conv => whnf)) | ((refine Exists.intro _ (And.intro (by ((conv => whnf); (repeat ((refine And.intro (by exact rfl) ?_); (conv => whnf))))) ?_)); (conv => whnf)))))
    rw [f2, f4, f6, hHL]
    refine ev_sound tokT (keep := fun _ => true) ?_
    (conv => whnf)
    (refine Left.of [5] (.sl 0 0 (headL h).length none) [⟨1, false, none, .ints .u8 (headL h)⟩] (by rfl) (by rfl) (by rfl) (by (repeat' (first | exact True.intro | exact rfl | refine And.intro ?_ ?_ | (simp [AV.ren, AV.rens, AObj.ren, Ent.ren, AV.inn, AV.inns, AObj.inn, *]; done)))) (by rfl) (by (repeat' (first | exact True.intro | exact rfl | refine And.intro ?_ ?_ | (simp [AV.ren, AV.rens, AObj.ren, Ent.ren, AV.inn, AV.inns, AObj.inn, *]; done)))) ?_)
    exact ⟨rfl, rfl⟩

theorem refid_ok (h : Hdr) (w : h.wf) :
    AC Try.prog 60 [h.av] [] (fun r hp' => r = .agg [.ints .u8 32 (hidOf h)] ∧ hp' = []) := by
  refine AC.left (AC.body tokT Try.func60 rfl rfl rfl (by decide) (by rfl) ?_)
  have hlen := headL_len w
  refine AW.pre tokT (fun _ => true) ?_; (conv => whnf)
  refine AW.pre tokT (fun _ => true) ?_; (conv => whnf)
  refine AC.frame (fits_ok h.work) [] (by (repeat' (exact True.intro))) (by rfl) (by (repeat' (first | exact True.intro | refine And.intro ?_ ?_))) (by rfl) ?_
  rintro r0 hp0 ⟨rfl, rfl⟩
  by_cases h1 : okN h.work
  case neg =>
    have hid := hid_bad (h := h) (fun q => h1 q.1)
    rw [decide_eq_false (show ¬ (0 ≤ h.work ∧ h.work ≤ 4611686018427387904) from h1), hid]
    (conv => whnf)
    (refine Left.of [] (.agg [.ints .u8 32 (List.replicate 32 0)]) [] (by rfl) (by rfl) (by rfl) (by (repeat' (first | exact True.intro | refine And.intro ?_ ?_))) (by rfl) (by (repeat' (first | exact True.intro | refine And.intro ?_ ?_))) ?_)
    exact ⟨rfl, rfl⟩
  rw [decide_eq_true (show (0 ≤ h.work ∧ h.work ≤ 4611686018427387904) from h1)]
  (conv => whnf)
  refine AC.frame (fits_ok h.nonce) [] (by (repeat' (exact True.intro))) (by rfl) (by (repeat' (first | exact True.intro | refine And.intro ?_ ?_))) (by rfl) ?_
  rintro r0 hp0 ⟨rfl, rfl⟩
  by_cases h2 : okN h.nonce
  case neg =>
    have hid := hid_bad (h := h) (fun q => h2 q.2)
    rw [decide_eq_false (show ¬ (0 ≤ h.nonce ∧ h.nonce ≤ 4611686018427387904) from h2), hid]
    (conv => whnf)
    (refine Left.of [] (.agg [.ints .u8 32 (List.replicate 32 0)]) [] (by rfl) (by rfl) (by rfl) (by (repeat' (first | exact True.intro | refine And.intro ?_ ?_))) (by rfl) (by (repeat' (first | exact True.intro | refine And.intro ?_ ?_))) ?_)
    exact ⟨rfl, rfl⟩
  rw [decide_eq_true (show (0 ≤ h.nonce ∧ h.nonce ≤ 4611686018427387904) from h2)]
  (conv => whnf)
  have hg := heading_ok h w h1 h2
  obtain ⟨L, hL⟩ : ∃ L, headL h = L := ⟨_, rfl⟩
  have hid : hidOf h = shaL (shaL L) := by rw [hid_ok h1 h2, hL]
  rw [hL] at hg hlen
  have e1 : (L.drop 0).take L.length = L := by rw [List.drop_zero, List.take_length]
  have h32 : (shaL (shaL L)).length = 32 := shaL_length _
  have ht := reftwice_ok L 0 L.length none (by omega) (by omega) (fun c hc => by cases hc)
  rw [e1] at ht
  rw [hid]
  obtain ⟨D, hD⟩ : ∃ D, shaL (shaL L) = D := ⟨_, rfl⟩
  rw [hD] at ht h32 ⊢
  refine ev_sound tokT (keep := fun _ => true) ?_
  (conv => whnf)
  refine AC.frame hg [] (by (repeat' (exact True.intro))) (by rfl) (by (repeat' (first | exact True.intro | refine And.intro ?_ ?_))) (by rfl) ?_
  rintro r0 hp0 ⟨rfl, rfl⟩
  (conv => whnf)
  refine AC.frame ht [2] (by (repeat' (first | exact True.intro | exact rfl | refine And.intro ?_ ?_))) (by rfl) (by (repeat' (first | exact True.intro | refine And.intro ?_ ?_ | (simp [AV.ren, AV.rens, AObj.ren, Ent.ren, AV.inn, AV.inns, AObj.inn, *]; done)))) (by rfl) ?_
  rintro r0 hp0 ⟨rfl, rfl⟩
  (conv => whnf)
  (refine Left.of [] (.agg [.ints .u8 32 D]) [] (by rfl) (by rfl) (by rfl) (by (repeat' (first | exact True.intro | refine And.intro ?_ ?_))) (by rfl) (by (repeat' (first | exact True.intro | refine And.intro ?_ ?_))) ?_)
  exact ⟨rfl, rfl⟩
end Go.Aw
end
