/-
  AwWt2: witness.Justice and witness.Mine. Own work.
-/
import Derived.Test.YtdababcblhbpeaaAwWt1
import Derived.Test.YtdababcblhbpeaaAwSc2
set_option linter.unusedVariables false
set_option linter.unusedSimpArgs false
set_option maxRecDepth 20000
open Go.Proofs
namespace Go.Aw

abbrev zeroC : Clm := ⟨⟨0, 0, []⟩, 0, 0, 0⟩
abbrev outC (c : Clm) (e : Int) : AV := .tup [c.av, .int .i64 e]
def Jus (s : Scr) (k : Keys3) : Prop := s.ok ∧ (s.kind = 2 ∨ s.kind = 5 ∨ s.kind = 6) ∧ s.rev = k.rev
instance (s : Scr) (k : Keys3) : Decidable (Jus s k) := by unfold Jus; infer_instance
@[irreducible] def jusB (s : Scr) (k : Keys3) : Bool := decide (Jus s k)
theorem jusB_true {s : Scr} {k : Keys3} : jusB s k = true ↔ Jus s k := by unfold jusB; exact iff_of_eq (decide_eq_true_eq)
theorem jusB_false {s : Scr} {k : Keys3} : jusB s k = false ↔ ¬ Jus s k := by rw [← jusB_true]; simp
theorem okB_false {s : Scr} : okB s = false ↔ ¬ s.ok := by rw [← okB_true]; simp
def jusC (s : Scr) (k : Keys3) : Clm := match jusB s k with | true => ⟨⟨3, k.rev, []⟩, 0, 0, 0⟩ | false => zeroC
def jusE (s : Scr) (k : Keys3) : Int := match jusB s k with | true => 0 | false => 5
theorem justice_ok (s : Scr) (k : Keys3) : AC Try.prog 51 [s.av, k.av] [] (fun r hp' => r = outC (jusC s k) (jusE s k) ∧ hp' = []) := by
  refine AC.left (AC.body tokT Try.func51 rfl rfl rfl (by decide) (by rfl) ?_)
  refine AW.pre tokT (fun _ => true) ?_; (conv => whnf)
  refine AW.cutT (fun fr hp => fr = [(2, .ptr 0 0 0 0), (3, .ptr 1 0 0 0), (4, .ptr 2 0 0 0), (5, .int .i64 0), (6, .bool (decide (s.kind = 2 ∨ s.kind = 5 ∨ s.kind = 6)))] ∧ hp = [⟨38, false, none, .var s.segs⟩, ⟨3, false, none, .var [.int .i64 k.wallet, .int .i64 k.own, .int .i64 k.rev]⟩, ⟨6, false, none, .var zeroC.segs⟩]) ?_ ?_
  · refine ev_sound tokT (keep := fun _ => true) ?_
    (conv => whnf); (cases h1 : (s.kind == 2 : Bool) <;> (try simp only [beq_iff_eq, beq_eq_false_iff_ne, ne_eq, decide_eq_true_eq, decide_eq_false_iff_not, bne_iff_ne, bne_eq_false_iff_eq, Bool.not_eq_true, Bool.not_eq_false, gt_iff_lt, ge_iff_le] at h1) <;> (try (exfalso; omega)))
    case' true =>
      (conv => whnf)
      rw [show decide (s.kind = 2 ∨ s.kind = 5 ∨ s.kind = 6) = true from decide_eq_true (by omega)]
      (refine Turned.of [0, 1, 2] [(2, .ptr 0 0 0 0), (3, .ptr 1 0 0 0), (4, .ptr 2 0 0 0), (5, .int .i64 0), (6, .bool true)] [⟨38, false, none, .var s.segs⟩, ⟨3, false, none, .var [.int .i64 k.wallet, .int .i64 k.own, .int .i64 k.rev]⟩, ⟨6, false, none, .var zeroC.segs⟩] (by rfl) (by rfl) (by rfl) (by (repeat' (first | exact True.intro | exact rfl | refine And.intro ?_ ?_ | (simp [AV.ren, AV.rens, AObj.ren, Ent.ren, AV.inn, AV.inns, AObj.inn, *]; done)))) (by (repeat' (first | exact True.intro | exact rfl | refine And.intro ?_ ?_ | (simp [AV.ren, AV.rens, AObj.ren, Ent.ren, AV.inn, AV.inns, AObj.inn, *]; done)))) ?_)
      exact ⟨rfl, rfl⟩
    (conv => whnf); (cases h2 : (s.kind == 5 : Bool) <;> (try simp only [beq_iff_eq, beq_eq_false_iff_ne, ne_eq, decide_eq_true_eq, decide_eq_false_iff_not, bne_iff_ne, bne_eq_false_iff_eq, Bool.not_eq_true, Bool.not_eq_false, gt_iff_lt, ge_iff_le] at h2) <;> (try (exfalso; omega)))
    case' true =>
      (conv => whnf)
      rw [show decide (s.kind = 2 ∨ s.kind = 5 ∨ s.kind = 6) = true from decide_eq_true (by omega)]
      (refine Turned.of [0, 1, 2] [(2, .ptr 0 0 0 0), (3, .ptr 1 0 0 0), (4, .ptr 2 0 0 0), (5, .int .i64 0), (6, .bool true)] [⟨38, false, none, .var s.segs⟩, ⟨3, false, none, .var [.int .i64 k.wallet, .int .i64 k.own, .int .i64 k.rev]⟩, ⟨6, false, none, .var zeroC.segs⟩] (by rfl) (by rfl) (by rfl) (by (repeat' (first | exact True.intro | exact rfl | refine And.intro ?_ ?_ | (simp [AV.ren, AV.rens, AObj.ren, Ent.ren, AV.inn, AV.inns, AObj.inn, *]; done)))) (by (repeat' (first | exact True.intro | exact rfl | refine And.intro ?_ ?_ | (simp [AV.ren, AV.rens, AObj.ren, Ent.ren, AV.inn, AV.inns, AObj.inn, *]; done)))) ?_)
      exact ⟨rfl, rfl⟩
    (conv => whnf)
    rw [show (s.kind == 6) = decide (s.kind = 2 ∨ s.kind = 5 ∨ s.kind = 6) from beq_dec (by omega)]
    (refine Turned.of [0, 1, 2] [(2, .ptr 0 0 0 0), (3, .ptr 1 0 0 0), (4, .ptr 2 0 0 0), (5, .int .i64 0), (6, .bool (decide (s.kind = 2 ∨ s.kind = 5 ∨ s.kind = 6)))] [⟨38, false, none, .var s.segs⟩, ⟨3, false, none, .var [.int .i64 k.wallet, .int .i64 k.own, .int .i64 k.rev]⟩, ⟨6, false, none, .var zeroC.segs⟩] (by rfl) (by rfl) (by rfl) (by (repeat' (first | exact True.intro | exact rfl | refine And.intro ?_ ?_ | (simp [AV.ren, AV.rens, AObj.ren, Ent.ren, AV.inn, AV.inns, AObj.inn, *]; done)))) (by (repeat' (first | exact True.intro | exact rfl | refine And.intro ?_ ?_ | (simp [AV.ren, AV.rens, AObj.ren, Ent.ren, AV.inn, AV.inns, AObj.inn, *]; done)))) ?_)
    exact ⟨rfl, rfl⟩
  · rintro fr hp ⟨rfl, rfl⟩
    have bad : ¬ Jus s k → jusC s k = zeroC ∧ jusE s k = 5 := fun g => by unfold jusC jusE; rw [jusB_false.2 g]; exact ⟨rfl, rfl⟩
    refine ev_sound tokT (keep := fun _ => true) ?_
    (conv => whnf)
    refine AC.pure (valid_b s) (by (repeat' (first | exact True.intro | refine And.intro ?_ ?_))) (by (repeat' (exact True.intro))) ?_
    (conv => whnf); (cases hv : (okB s : Bool) <;> (try simp only [beq_iff_eq, beq_eq_false_iff_ne, ne_eq, decide_eq_true_eq, decide_eq_false_iff_not, bne_iff_ne, bne_eq_false_iff_eq, Bool.not_eq_true, Bool.not_eq_false, gt_iff_lt, ge_iff_le] at hv) <;> (try (exfalso; omega)))
    · (conv => whnf)
      (refine Left.of [] (outC zeroC 5) [] (by rfl) (by rfl) (by rfl) (by (repeat' (first | exact True.intro | refine And.intro ?_ ?_))) (by rfl) (by (repeat' (first | exact True.intro | refine And.intro ?_ ?_))) ?_)
      obtain ⟨e1, e2⟩ := bad (fun g => okB_false.1 hv g.1)
      exact ⟨by rw [e1, e2], rfl⟩
    (conv => whnf); (cases hk : (decide (s.kind = 2 ∨ s.kind = 5 ∨ s.kind = 6) : Bool) <;> (try simp only [beq_iff_eq, beq_eq_false_iff_ne, ne_eq, decide_eq_true_eq, decide_eq_false_iff_not, bne_iff_ne, bne_eq_false_iff_eq, Bool.not_eq_true, Bool.not_eq_false, gt_iff_lt, ge_iff_le] at hk) <;> (try (exfalso; omega)))
    · (conv => whnf)
      (refine Left.of [] (outC zeroC 5) [] (by rfl) (by rfl) (by rfl) (by (repeat' (first | exact True.intro | refine And.intro ?_ ?_))) (by rfl) (by (repeat' (first | exact True.intro | refine And.intro ?_ ?_))) ?_)
      obtain ⟨e1, e2⟩ := bad (fun g => hk g.2.1)
      exact ⟨by rw [e1, e2], rfl⟩
    (conv => whnf); (cases hr : (s.rev != k.rev : Bool) <;> (try simp only [beq_iff_eq, beq_eq_false_iff_ne, ne_eq, decide_eq_true_eq, decide_eq_false_iff_not, bne_iff_ne, bne_eq_false_iff_eq, Bool.not_eq_true, Bool.not_eq_false, gt_iff_lt, ge_iff_le] at hr) <;> (try (exfalso; omega)))
    case' true =>
      (conv => whnf)
      (refine Left.of [] (outC zeroC 5) [] (by rfl) (by rfl) (by rfl) (by (repeat' (first | exact True.intro | refine And.intro ?_ ?_))) (by rfl) (by (repeat' (first | exact True.intro | refine And.intro ?_ ?_))) ?_)
      obtain ⟨e1, e2⟩ := bad (fun g => hr g.2.2)
      exact ⟨by rw [e1, e2], rfl⟩
    (conv => whnf)
    (refine Left.of [] (outC ⟨⟨3, k.rev, []⟩, 0, 0, 0⟩ 0) [] (by rfl) (by rfl) (by rfl) (by (repeat' (first | exact True.intro | refine And.intro ?_ ?_))) (by rfl) (by (repeat' (first | exact True.intro | refine And.intro ?_ ?_))) ?_)
    have g : jusB s k = true := jusB_true.2 ⟨okB_true.1 hv, hk, hr⟩
    exact ⟨by unfold jusC jusE; rw [g], rfl⟩

/-- how the node may spend, the script's words told one by one -/
def mineK (kd ky ot dl ex : Int) (k : Keys3) (pre : List UInt8) (kn : Bool) : Clm × Int :=
  if kd = 1 then (if ky = k.wallet then (⟨⟨1, k.wallet, []⟩, 0, 0, 0⟩, 0) else (zeroC, 5))
  else if kd = 2 then (if ky = k.own then (⟨⟨1, k.own, []⟩, dl, 0, dl⟩, 0) else (zeroC, 5))
  else if kd = 3 then (if ky = k.own then (⟨⟨1, k.own, []⟩, 1, 0, 1⟩, 0) else (zeroC, 5))
  else if kd = 4 then (if ky = k.own then (⟨⟨1, k.own, []⟩, 0, 0, 0⟩, 0) else (zeroC, 5))
  else if kd = 5 then (if ot = k.own ∧ kn = true then (⟨⟨2, k.own, pre⟩, 0, 0, 0⟩, 0) else if ky = k.own then (⟨⟨1, k.own, []⟩, 0, ex, 0⟩, 0) else (zeroC, 5))
  else (if ky = k.own ∧ kn = true then (⟨⟨2, k.own, pre⟩, 0, 0, 0⟩, 0) else if ot = k.own then (⟨⟨1, k.own, []⟩, 0, ex, 0⟩, 0) else (zeroC, 5))
def mineP (s : Scr) (k : Keys3) (pre : List UInt8) (kn : Bool) : Clm × Int := if s.ok then mineK s.kind s.key s.other s.delay s.expiry k pre kn else (zeroC, 5)
def mineC (s : Scr) (k : Keys3) (pre : List UInt8) (kn : Bool) : Clm := (mineP s k pre kn).1
def mineE (s : Scr) (k : Keys3) (pre : List UInt8) (kn : Bool) : Int := (mineP s k pre kn).2

theorem mineP_ok {s : Scr} {k : Keys3} {pre : List UInt8} {kn : Bool} (h : s.ok) : mineP s k pre kn = mineK s.kind s.key s.other s.delay s.expiry k pre kn := if_pos h

set_option maxHeartbeats 1000000 in
theorem mine_ok (s : Scr) (k : Keys3) (pre : List UInt8) (known : Bool) (hl : pre.length ≤ 4294967296) :
    AC Try.prog 49 [s.av, k.av, .str pre, .bool known] [] (fun r hp' => r = outC (mineC s k pre (known && (shaL (bytesOfStr pre) == s.hash))) (mineE s k pre (known && (shaL (bytesOfStr pre) == s.hash))) ∧ hp' = []) := by
  refine AC.left (AC.body tokT Try.func49 rfl rfl rfl (by decide) (by rfl) ?_)
  have hvb := valid_b s
  obtain ⟨kd, ky, ot, rv, dl, ex, H⟩ := s
  obtain ⟨kn, hkn⟩ : ∃ kn, (known && (shaL (bytesOfStr pre) == H)) = kn := ⟨_, rfl⟩
  simp only
  rw [hkn]
  refine AW.pre tokT (fun _ => true) ?_; (conv => whnf)
  refine AW.scope 0 (by rfl) ?_
  refine AW.cutT (fun fr hp => fr = [(2, .str pre), (3, .bool kn), (4, .ptr 0 0 0 0), (5, .ptr 1 0 0 0), (8, .ptr 2 0 0 0), (9, .int .i64 0)] ∧ hp = [⟨38, false, none, .var [.int .i64 kd, .int .i64 ky, .int .i64 ot, .int .i64 rv, .int .i64 dl, .int .i64 ex, .ints .u8 32 H]⟩, ⟨3, false, none, .var [.int .i64 k.wallet, .int .i64 k.own, .int .i64 k.rev]⟩, ⟨6, false, none, .var zeroC.segs⟩]) (AW.draw [(false, 0), (false, 1), (false, 2), (false, 4), (false, 5), (true, 3), (false, 6), (false, 7), (true, 8)] (keep := fun _ => true) mixed_okS tokT (by kernel_rfl) (by kernel_rfl) ?_) ?_
  · ((conv => whnf); (repeat (((refine Exists.intro _ (And.intro (by ((conv => whnf); (repeat ((refine And.intro (by exact rfl) ?_); (conv => whnf))))) ?_)); (conv => whnf)))))
    cases known with
    | false =>
      have : kn = false := by rw [← hkn]; rfl
      subst this
      ((conv => whnf); (repeat (first | ((with_reducible (refine And.intro (show Go.Aw.againsK _ _ _ _ _ from ?_) ?_)); (focus (repeat' (first | ((with_reducible (show Go.Aw.againsK _ _ _ _ _)); (conv => whnf)) | ((with_reducible (show Go.Aw.againK _ _ _ _ _)); (conv => whnf)) | (with_reducible (exact True.intro)) | (with_reducible (refine And.intro ?_ ?_)) | exact rfl))); (conv => whnf)) | ((refine Exists.intro _ (And.intro (by ((conv => whnf); (repeat ((refine And.intro (by exact rfl) ?_); (conv => whnf))))) ?_)); (conv => whnf)))))
      (refine Turned.of [0, 1, 2] [(2, .str pre), (3, .bool false), (4, .ptr 0 0 0 0), (5, .ptr 1 0 0 0), (8, .ptr 2 0 0 0), (9, .int .i64 0)] [⟨38, false, none, .var [.int .i64 kd, .int .i64 ky, .int .i64 ot, .int .i64 rv, .int .i64 dl, .int .i64 ex, .ints .u8 32 H]⟩, ⟨3, false, none, .var [.int .i64 k.wallet, .int .i64 k.own, .int .i64 k.rev]⟩, ⟨6, false, none, .var zeroC.segs⟩] (by rfl) (by rfl) (by rfl) (by (repeat' (first | exact True.intro | exact rfl | refine And.intro ?_ ?_ | (simp [AV.ren, AV.rens, AObj.ren, Ent.ren, AV.inn, AV.inns, AObj.inn, *]; done)))) (by (repeat' (first | exact True.intro | exact rfl | refine And.intro ?_ ?_ | (simp [AV.ren, AV.rens, AObj.ren, Ent.ren, AV.inn, AV.inns, AObj.inn, *]; done)))) ?_)
      exact ⟨rfl, rfl⟩
    | true =>
      ((conv => whnf); (repeat (((refine Exists.intro _ (And.intro (by ((conv => whnf); (repeat ((refine And.intro (by exact rfl) ?_); (conv => whnf))))) ?_)); (conv => whnf)))))
      refine AC.frame (image_ok pre hl) [] (by (repeat' (exact True.intro))) (by rfl) (by (repeat' (first | exact True.intro | refine And.intro ?_ ?_))) (by rfl) ?_
      rintro r0 hp0 ⟨rfl, rfl⟩
      ((conv => whnf); (repeat (first | ((with_reducible (refine And.intro (show Go.Aw.againsK _ _ _ _ _ from ?_) ?_)); (focus (repeat' (first | ((with_reducible (show Go.Aw.againsK _ _ _ _ _)); (conv => whnf)) | ((with_reducible (show Go.Aw.againK _ _ _ _ _)); (conv => whnf)) | (with_reducible (exact True.intro)) | (with_reducible (refine And.intro ?_ ?_)) | exact rfl))); (conv => whnf)) | ((refine Exists.intro _ (And.intro (by ((conv => whnf); (repeat ((refine And.intro (by exact rfl) ?_); (conv => whnf))))) ?_)); (conv => whnf)))))
      rw [show (shaL (bytesOfStr pre) == H) = kn by rw [← hkn]; rfl]
      rw [show (kn && true) = kn by simp]
      (refine Turned.of [0, 1, 2] [(2, .str pre), (3, .bool kn), (4, .ptr 0 0 0 0), (5, .ptr 1 0 0 0), (8, .ptr 2 0 0 0), (9, .int .i64 0)] [⟨38, false, none, .var [.int .i64 kd, .int .i64 ky, .int .i64 ot, .int .i64 rv, .int .i64 dl, .int .i64 ex, .ints .u8 32 H]⟩, ⟨3, false, none, .var [.int .i64 k.wallet, .int .i64 k.own, .int .i64 k.rev]⟩, ⟨6, false, none, .var zeroC.segs⟩] (by rfl) (by rfl) (by rfl) (by (repeat' (first | exact True.intro | exact rfl | refine And.intro ?_ ?_ | (simp [AV.ren, AV.rens, AObj.ren, Ent.ren, AV.inn, AV.inns, AObj.inn, *]; done)))) (by (repeat' (first | exact True.intro | exact rfl | refine And.intro ?_ ?_ | (simp [AV.ren, AV.rens, AObj.ren, Ent.ren, AV.inn, AV.inns, AObj.inn, *]; done)))) ?_)
      exact ⟨rfl, rfl⟩
  · rintro fr hp ⟨rfl, rfl⟩
    refine AW.pre tokT (fun _ => true) ?_; (conv => whnf)
    refine AW.pre tokT (fun _ => true) ?_; (conv => whnf)
    (refine AW.turnL [0, 1, 2, 3] [(3, .bool kn), (4, .ptr 0 0 0 0), (5, .ptr 1 0 0 0), (8, .ptr 2 0 0 0), (9, .int .i64 0), (10, .bool (ky == k.own)), (11, .ptr 3 0 0 0)] [⟨38, false, none, .var [.int .i64 kd, .int .i64 ky, .int .i64 ot, .int .i64 rv, .int .i64 dl, .int .i64 ex, .ints .u8 32 H]⟩, ⟨3, false, none, .var [.int .i64 k.wallet, .int .i64 k.own, .int .i64 k.rev]⟩, ⟨6, false, none, .var zeroC.segs⟩, ⟨6, false, none, .var [.int .i64 2, .int .i64 k.own, .str pre, .int .i64 0, .int .i64 0, .int .i64 0]⟩] (by rfl) (by rfl) (by rfl) (by (repeat' (first | exact True.intro | exact rfl | refine And.intro ?_ ?_ | (simp [AV.ren, AV.rens, AObj.ren, Ent.ren, AV.inn, AV.inns, AObj.inn, *]; done)))) (by (repeat' (first | exact True.intro | exact rfl | refine And.intro ?_ ?_ | (simp [AV.ren, AV.rens, AObj.ren, Ent.ren, AV.inn, AV.inns, AObj.inn, *]; done)))) ?_)
    refine ev_sound tokT (keep := fun _ => true) ?_
    (conv => whnf)
    refine AC.pure hvb (by (repeat' (first | exact True.intro | refine And.intro ?_ ?_))) (by (repeat' (exact True.intro))) ?_
    (conv => whnf); (cases hv : (okB { kind := kd, key := ky, other := ot, rev := rv, delay := dl, expiry := ex, hash := H } : Bool) <;> (try simp only [beq_iff_eq, beq_eq_false_iff_ne, ne_eq, decide_eq_true_eq, decide_eq_false_iff_not, bne_iff_ne, bne_eq_false_iff_eq, Bool.not_eq_true, Bool.not_eq_false, gt_iff_lt, ge_iff_le] at hv) <;> (try (exfalso; omega)))
    case' false =>
      have hok := okB_false.1 hv
      (conv => whnf)
      refine ev_sound tokT (keep := fun _ => true) ?_
      (conv => whnf)
      (refine Left.of [] (outC zeroC 5) [] (by rfl) (by rfl) (by rfl) (by (repeat' (first | exact True.intro | refine And.intro ?_ ?_))) (by rfl) (by (repeat' (first | exact True.intro | refine And.intro ?_ ?_))) ?_)
      exact ⟨by simp [mineC, mineE, mineP, hok], rfl⟩
    have hok := okB_true.1 hv
    have h16 : kd = 1 ∨ kd = 2 ∨ kd = 3 ∨ kd = 4 ∨ kd = 5 ∨ kd = 6 := by
      have := hok
      unfold Scr.ok at this
      simp only at this
      omega
    clear hvb hv
    rcases h16 with rfl | rfl | rfl | rfl | rfl | rfl
    · (conv => whnf); (cases a : (ky == k.wallet : Bool) <;> (try simp only [beq_iff_eq, beq_eq_false_iff_ne, ne_eq, decide_eq_true_eq, decide_eq_false_iff_not, bne_iff_ne, bne_eq_false_iff_eq, Bool.not_eq_true, Bool.not_eq_false, gt_iff_lt, ge_iff_le] at a) <;> (try (exfalso; omega)))
      · (conv => whnf)
        refine ev_sound tokT (keep := fun _ => true) ?_
        (conv => whnf)
        (refine Left.of [] (outC zeroC 5) [] (by rfl) (by rfl) (by rfl) (by (repeat' (first | exact True.intro | refine And.intro ?_ ?_))) (by rfl) (by (repeat' (first | exact True.intro | refine And.intro ?_ ?_))) ?_)
        exact ⟨by unfold mineC mineE; rw [mineP_ok hok]; simp [mineK, a], rfl⟩
      · (conv => whnf)
        refine AC.pure (sigk_ok _) (by (repeat' (first | exact True.intro | refine And.intro ?_ ?_))) (by (repeat' (first | exact True.intro | refine And.intro ?_ ?_))) ?_
        (conv => whnf)
        (refine Left.of [] (outC ⟨⟨1, k.wallet, []⟩, 0, 0, 0⟩ 0) [] (by rfl) (by rfl) (by rfl) (by (repeat' (first | exact True.intro | refine And.intro ?_ ?_))) (by rfl) (by (repeat' (first | exact True.intro | refine And.intro ?_ ?_))) ?_)
        exact ⟨by unfold mineC mineE; rw [mineP_ok hok]; simp [mineK, a], rfl⟩
    · (conv => whnf); (cases a : (ky == k.own : Bool) <;> (try simp only [beq_iff_eq, beq_eq_false_iff_ne, ne_eq, decide_eq_true_eq, decide_eq_false_iff_not, bne_iff_ne, bne_eq_false_iff_eq, Bool.not_eq_true, Bool.not_eq_false, gt_iff_lt, ge_iff_le] at a) <;> (try (exfalso; omega)))
      · (conv => whnf)
        refine ev_sound tokT (keep := fun _ => true) ?_
        (conv => whnf)
        (refine Left.of [] (outC zeroC 5) [] (by rfl) (by rfl) (by rfl) (by (repeat' (first | exact True.intro | refine And.intro ?_ ?_))) (by rfl) (by (repeat' (first | exact True.intro | refine And.intro ?_ ?_))) ?_)
        exact ⟨by unfold mineC mineE; rw [mineP_ok hok]; simp [mineK, a], rfl⟩
      · (conv => whnf)
        refine AC.pure (sigk_ok _) (by (repeat' (first | exact True.intro | refine And.intro ?_ ?_))) (by (repeat' (first | exact True.intro | refine And.intro ?_ ?_))) ?_
        (conv => whnf)
        refine AW.draw [(false, 0), (false, 1), (false, 2), (false, 3), (false, 4), (true, 5), (false, 6), (true, 7)] (keep := fun _ => true) mixed_okS tokT (by kernel_rfl) (by kernel_rfl) ?_
        ((conv => whnf); (repeat (first | ((with_reducible (refine And.intro (show Go.Aw.againsK _ _ _ _ _ from ?_) ?_)); (focus (repeat' (first | ((with_reducible (show Go.Aw.againsK _ _ _ _ _)); (conv => whnf)) | ((with_reducible (show Go.Aw.againK _ _ _ _ _)); (conv => whnf)) | (with_reducible (exact True.intro)) | (with_reducible (refine And.intro ?_ ?_)) | exact rfl))); (conv => whnf)) | ((refine Exists.intro _ (And.intro (by ((conv => whnf); (repeat ((refine And.intro (by exact rfl) ?_); (conv => whnf))))) ?_)); (conv => whnf)))))
        (refine Left.of [] (outC ⟨⟨1, k.own, []⟩, dl, 0, dl⟩ 0) [] (by rfl) (by rfl) (by rfl) (by (repeat' (first | exact True.intro | refine And.intro ?_ ?_))) (by rfl) (by (repeat' (first | exact True.intro | refine And.intro ?_ ?_))) ?_)
        exact ⟨by unfold mineC mineE; rw [mineP_ok hok]; simp [mineK, a], rfl⟩
    · (conv => whnf); (cases a : (ky == k.own : Bool) <;> (try simp only [beq_iff_eq, beq_eq_false_iff_ne, ne_eq, decide_eq_true_eq, decide_eq_false_iff_not, bne_iff_ne, bne_eq_false_iff_eq, Bool.not_eq_true, Bool.not_eq_false, gt_iff_lt, ge_iff_le] at a) <;> (try (exfalso; omega)))
      · (conv => whnf)
        refine ev_sound tokT (keep := fun _ => true) ?_
        (conv => whnf)
        (refine Left.of [] (outC zeroC 5) [] (by rfl) (by rfl) (by rfl) (by (repeat' (first | exact True.intro | refine And.intro ?_ ?_))) (by rfl) (by (repeat' (first | exact True.intro | refine And.intro ?_ ?_))) ?_)
        exact ⟨by unfold mineC mineE; rw [mineP_ok hok]; simp [mineK, a], rfl⟩
      · (conv => whnf)
        refine AC.pure (sigk_ok _) (by (repeat' (first | exact True.intro | refine And.intro ?_ ?_))) (by (repeat' (first | exact True.intro | refine And.intro ?_ ?_))) ?_
        (conv => whnf)
        (refine Left.of [] (outC ⟨⟨1, k.own, []⟩, 1, 0, 1⟩ 0) [] (by rfl) (by rfl) (by rfl) (by (repeat' (first | exact True.intro | refine And.intro ?_ ?_))) (by rfl) (by (repeat' (first | exact True.intro | refine And.intro ?_ ?_))) ?_)
        exact ⟨by unfold mineC mineE; rw [mineP_ok hok]; simp [mineK, a], rfl⟩
    · (conv => whnf); (cases a : (ky == k.own : Bool) <;> (try simp only [beq_iff_eq, beq_eq_false_iff_ne, ne_eq, decide_eq_true_eq, decide_eq_false_iff_not, bne_iff_ne, bne_eq_false_iff_eq, Bool.not_eq_true, Bool.not_eq_false, gt_iff_lt, ge_iff_le] at a) <;> (try (exfalso; omega)))
      · (conv => whnf)
        refine ev_sound tokT (keep := fun _ => true) ?_
        (conv => whnf)
        (refine Left.of [] (outC zeroC 5) [] (by rfl) (by rfl) (by rfl) (by (repeat' (first | exact True.intro | refine And.intro ?_ ?_))) (by rfl) (by (repeat' (first | exact True.intro | refine And.intro ?_ ?_))) ?_)
        exact ⟨by unfold mineC mineE; rw [mineP_ok hok]; simp [mineK, a], rfl⟩
      · (conv => whnf)
        refine AC.pure (sigk_ok _) (by (repeat' (first | exact True.intro | refine And.intro ?_ ?_))) (by (repeat' (first | exact True.intro | refine And.intro ?_ ?_))) ?_
        (conv => whnf)
        (refine Left.of [] (outC ⟨⟨1, k.own, []⟩, 0, 0, 0⟩ 0) [] (by rfl) (by rfl) (by rfl) (by (repeat' (first | exact True.intro | refine And.intro ?_ ?_))) (by rfl) (by (repeat' (first | exact True.intro | refine And.intro ?_ ?_))) ?_)
        exact ⟨by unfold mineC mineE; rw [mineP_ok hok]; simp [mineK, a], rfl⟩
    · (conv => whnf); (cases a : (ot == k.own : Bool) <;> (try simp only [beq_iff_eq, beq_eq_false_iff_ne, ne_eq, decide_eq_true_eq, decide_eq_false_iff_not, bne_iff_ne, bne_eq_false_iff_eq, Bool.not_eq_true, Bool.not_eq_false, gt_iff_lt, ge_iff_le] at a) <;> (try (exfalso; omega)))
      · (conv => whnf); (cases b : (ky == k.own : Bool) <;> (try simp only [beq_iff_eq, beq_eq_false_iff_ne, ne_eq, decide_eq_true_eq, decide_eq_false_iff_not, bne_iff_ne, bne_eq_false_iff_eq, Bool.not_eq_true, Bool.not_eq_false, gt_iff_lt, ge_iff_le] at b) <;> (try (exfalso; omega)))
        · (conv => whnf)
          refine ev_sound tokT (keep := fun _ => true) ?_
          (conv => whnf)
          (refine Left.of [] (outC zeroC 5) [] (by rfl) (by rfl) (by rfl) (by (repeat' (first | exact True.intro | refine And.intro ?_ ?_))) (by rfl) (by (repeat' (first | exact True.intro | refine And.intro ?_ ?_))) ?_)
          exact ⟨by unfold mineC mineE; rw [mineP_ok hok]; simp [mineK, a, b], rfl⟩
        · (conv => whnf)
          refine AC.pure (sigk_ok _) (by (repeat' (first | exact True.intro | refine And.intro ?_ ?_))) (by (repeat' (first | exact True.intro | refine And.intro ?_ ?_))) ?_
          (conv => whnf)
          (refine Left.of [] (outC ⟨⟨1, k.own, []⟩, 0, ex, 0⟩ 0) [] (by rfl) (by rfl) (by rfl) (by (repeat' (first | exact True.intro | refine And.intro ?_ ?_))) (by rfl) (by (repeat' (first | exact True.intro | refine And.intro ?_ ?_))) ?_)
          exact ⟨by unfold mineC mineE; rw [mineP_ok hok]; simp [mineK, a, b], rfl⟩
      · (conv => whnf); cases kn with
        | false =>
          (conv => whnf); (cases b : (ky == k.own : Bool) <;> (try simp only [beq_iff_eq, beq_eq_false_iff_ne, ne_eq, decide_eq_true_eq, decide_eq_false_iff_not, bne_iff_ne, bne_eq_false_iff_eq, Bool.not_eq_true, Bool.not_eq_false, gt_iff_lt, ge_iff_le] at b) <;> (try (exfalso; omega)))
          · (conv => whnf)
            refine ev_sound tokT (keep := fun _ => true) ?_
            (conv => whnf)
            (refine Left.of [] (outC zeroC 5) [] (by rfl) (by rfl) (by rfl) (by (repeat' (first | exact True.intro | refine And.intro ?_ ?_))) (by rfl) (by (repeat' (first | exact True.intro | refine And.intro ?_ ?_))) ?_)
            exact ⟨by unfold mineC mineE; rw [mineP_ok hok]; simp [mineK, a, b], rfl⟩
          · (conv => whnf)
            refine AC.pure (sigk_ok _) (by (repeat' (first | exact True.intro | refine And.intro ?_ ?_))) (by (repeat' (first | exact True.intro | refine And.intro ?_ ?_))) ?_
            (conv => whnf)
            (refine Left.of [] (outC ⟨⟨1, k.own, []⟩, 0, ex, 0⟩ 0) [] (by rfl) (by rfl) (by rfl) (by (repeat' (first | exact True.intro | refine And.intro ?_ ?_))) (by rfl) (by (repeat' (first | exact True.intro | refine And.intro ?_ ?_))) ?_)
            exact ⟨by unfold mineC mineE; rw [mineP_ok hok]; simp [mineK, a, b], rfl⟩
        | true =>
          (conv => whnf)
          (refine Left.of [] (outC ⟨⟨2, k.own, pre⟩, 0, 0, 0⟩ 0) [] (by rfl) (by rfl) (by rfl) (by (repeat' (first | exact True.intro | refine And.intro ?_ ?_))) (by rfl) (by (repeat' (first | exact True.intro | refine And.intro ?_ ?_))) ?_)
          exact ⟨by unfold mineC mineE; rw [mineP_ok hok]; simp [mineK, a], rfl⟩
    · (conv => whnf); (cases a : (ky == k.own : Bool) <;> (try simp only [beq_iff_eq, beq_eq_false_iff_ne, ne_eq, decide_eq_true_eq, decide_eq_false_iff_not, bne_iff_ne, bne_eq_false_iff_eq, Bool.not_eq_true, Bool.not_eq_false, gt_iff_lt, ge_iff_le] at a) <;> (try (exfalso; omega)))
      · (conv => whnf); (cases b : (ot == k.own : Bool) <;> (try simp only [beq_iff_eq, beq_eq_false_iff_ne, ne_eq, decide_eq_true_eq, decide_eq_false_iff_not, bne_iff_ne, bne_eq_false_iff_eq, Bool.not_eq_true, Bool.not_eq_false, gt_iff_lt, ge_iff_le] at b) <;> (try (exfalso; omega)))
        · (conv => whnf)
          refine ev_sound tokT (keep := fun _ => true) ?_
          (conv => whnf)
          (refine Left.of [] (outC zeroC 5) [] (by rfl) (by rfl) (by rfl) (by (repeat' (first | exact True.intro | refine And.intro ?_ ?_))) (by rfl) (by (repeat' (first | exact True.intro | refine And.intro ?_ ?_))) ?_)
          exact ⟨by unfold mineC mineE; rw [mineP_ok hok]; simp [mineK, a, b], rfl⟩
        · (conv => whnf)
          refine AC.pure (sigk_ok _) (by (repeat' (first | exact True.intro | refine And.intro ?_ ?_))) (by (repeat' (first | exact True.intro | refine And.intro ?_ ?_))) ?_
          (conv => whnf)
          (refine Left.of [] (outC ⟨⟨1, k.own, []⟩, 0, ex, 0⟩ 0) [] (by rfl) (by rfl) (by rfl) (by (repeat' (first | exact True.intro | refine And.intro ?_ ?_))) (by rfl) (by (repeat' (first | exact True.intro | refine And.intro ?_ ?_))) ?_)
          exact ⟨by unfold mineC mineE; rw [mineP_ok hok]; simp [mineK, a, b], rfl⟩
      · (conv => whnf); cases kn with
        | false =>
          (conv => whnf); (cases b : (ot == k.own : Bool) <;> (try simp only [beq_iff_eq, beq_eq_false_iff_ne, ne_eq, decide_eq_true_eq, decide_eq_false_iff_not, bne_iff_ne, bne_eq_false_iff_eq, Bool.not_eq_true, Bool.not_eq_false, gt_iff_lt, ge_iff_le] at b) <;> (try (exfalso; omega)))
          · (conv => whnf)
            refine ev_sound tokT (keep := fun _ => true) ?_
            (conv => whnf)
            (refine Left.of [] (outC zeroC 5) [] (by rfl) (by rfl) (by rfl) (by (repeat' (first | exact True.intro | refine And.intro ?_ ?_))) (by rfl) (by (repeat' (first | exact True.intro | refine And.intro ?_ ?_))) ?_)
            exact ⟨by unfold mineC mineE; rw [mineP_ok hok]; simp [mineK, a, b], rfl⟩
          · (conv => whnf)
            refine AC.pure (sigk_ok _) (by (repeat' (first | exact True.intro | refine And.intro ?_ ?_))) (by (repeat' (first | exact True.intro | refine And.intro ?_ ?_))) ?_
            (conv => whnf)
            (refine Left.of [] (outC ⟨⟨1, k.own, []⟩, 0, ex, 0⟩ 0) [] (by rfl) (by rfl) (by rfl) (by (repeat' (first | exact True.intro | refine And.intro ?_ ?_))) (by rfl) (by (repeat' (first | exact True.intro | refine And.intro ?_ ?_))) ?_)
            exact ⟨by unfold mineC mineE; rw [mineP_ok hok]; simp [mineK, a, b], rfl⟩
        | true =>
          (conv => whnf)
          (refine Left.of [] (outC ⟨⟨2, k.own, pre⟩, 0, 0, 0⟩ 0) [] (by rfl) (by rfl) (by rfl) (by (repeat' (first | exact True.intro | refine And.intro ?_ ?_))) (by rfl) (by (repeat' (first | exact True.intro | refine And.intro ?_ ?_))) ?_)
          exact ⟨by unfold mineC mineE; rw [mineP_ok hok]; simp [mineK, a], rfl⟩
end Go.Aw
