/-
  Own work: parts of the proof: AwX1 AwX2 AwNum1 AwNumR.
-/
import Derived.Test.YtdababcblhbpeaaM9
import Derived.Test.YtdababcblhbpeaaM2
import Derived.IntWalk
import Derived.Test.YtdababcblhbpeaaM3
import Derived.Test.YtdababcblhbpeaaM10

section
/-
  Own work: a part of the proof: AwX1.
-/

set_option linter.unusedSimpArgs false
set_option linter.unusedVariables false
open Go.Proofs
namespace Go.Aw
theorem size_ok (m : Int) : AC Try.prog 73 [.int .u8 m] [] (fun r hp' => r = .int .i64 (if m = 253 then 2 else if m = 254 then 4 else if m = 255 then 8 else 0) ∧ hp' = []) := by
  refine AC.body tokT Try.func73 rfl rfl rfl (by decide) (by rfl) ?_
  refine ev_sound tokT (keep := fun _ => true) ?_
  (conv => whnf); (cases h1 : (m == 253 : Bool) <;> (try simp only [beq_iff_eq, beq_eq_false_iff_ne, ne_eq, decide_eq_true_eq, decide_eq_false_iff_not, bne_iff_ne, bne_eq_false_iff_eq, Bool.not_eq_true, Bool.not_eq_false, gt_iff_lt, ge_iff_le] at h1) <;> (try (exfalso; omega)))
  · (conv => whnf); (cases h2 : (m == 254 : Bool) <;> (try simp only [beq_iff_eq, beq_eq_false_iff_ne, ne_eq, decide_eq_true_eq, decide_eq_false_iff_not, bne_iff_ne, bne_eq_false_iff_eq, Bool.not_eq_true, Bool.not_eq_false, gt_iff_lt, ge_iff_le] at h2) <;> (try (exfalso; omega)))
    · (conv => whnf); (cases h3 : (m == 255 : Bool) <;> (try simp only [beq_iff_eq, beq_eq_false_iff_ne, ne_eq, decide_eq_true_eq, decide_eq_false_iff_not, bne_iff_ne, bne_eq_false_iff_eq, Bool.not_eq_true, Bool.not_eq_false, gt_iff_lt, ge_iff_le] at h3) <;> (try (exfalso; omega)))
      · ((conv => whnf); (repeat (((refine And.intro (by (simp; omega)) ?_); (conv => whnf)))))
      · ((conv => whnf); (repeat (((refine And.intro (by (simp; omega)) ?_); (conv => whnf)))))
    · ((conv => whnf); (repeat (((refine And.intro (by (simp; omega)) ?_); (conv => whnf)))))
  · ((conv => whnf); (repeat (((refine And.intro (by (simp; omega)) ?_); (conv => whnf)))))
end Go.Aw
end

section
/-
  Own work: a part of the proof: AwX2.
-/

set_option linter.unusedSimpArgs false
set_option linter.unusedVariables false
open Go.Proofs
namespace Go.Aw
def leL : Nat → Int → List Int
  | 0, _ => []
  | k + 1, n => n % 256 :: leL k (n / 256)
def putL (n : Int) : List Int :=
  if n < 253 then [n] else if n < 65536 then 253 :: leL 2 n else if n < 4294967296 then 254 :: leL 4 n else 255 :: leL 8 n
def markOf (n : Int) : Int := if n < 65536 then 253 else if n < 4294967296 then 254 else 255
def lenOf (n : Int) : Nat := if n < 65536 then 2 else if n < 4294967296 then 4 else 8
theorem putL_big {n : Int} (h : ¬ n < 253) : putL n = markOf n :: leL (lenOf n) n := by
  unfold putL markOf lenOf
  rw [if_neg h]
  split
  · rfl
  · split <;> rfl

theorem put_ok (n : Int) (h : 0 ≤ n) (h' : n ≤ 4611686018427387904) : AC Try.prog 22 [.int .i64 n] [] (fun r hp' => ∃ cap, r = .sl 0 0 (putL n).length cap ∧ hp' = [⟨1, false, none, .ints .u8 (putL n)⟩]) := by
  refine AC.left (AC.body tokT Try.func22 rfl rfl rfl (by decide) (by rfl) ?_)
  refine AW.pre tokT (fun _ => true) ?_; (conv => whnf)
  refine AW.pre tokT (fun _ => true) ?_; (conv => whnf)
  refine AW.cutT (fun fr hp => ¬ n < 253 ∧ fr = [(0, .int .i64 n), (3, .int .u8 (markOf n))] ∧ hp = []) ?_ ?_
  · refine ev_sound tokT (keep := fun _ => true) ?_
    (conv => whnf); (cases h1 : (decide (n < 0) : Bool) <;> (try simp only [beq_iff_eq, beq_eq_false_iff_ne, ne_eq, decide_eq_true_eq, decide_eq_false_iff_not, bne_iff_ne, bne_eq_false_iff_eq, Bool.not_eq_true, Bool.not_eq_false, gt_iff_lt, ge_iff_le] at h1) <;> (try (exfalso; omega)))
    (conv => whnf); (first | (first | (rw [show (decide (n > 4611686018427387904) : Bool) = true from (by first | (simp; done) | (simp; omega) | (simp [*]; done) | (simp [*]; omega))]) | (rw [show (decide (n > 4611686018427387904) : Bool) = false from (by first | (simp; done) | (simp; omega) | (simp [*]; done) | (simp [*]; omega))])))
    (conv => whnf); (cases h2 : (decide (n < 253) : Bool) <;> (try simp only [beq_iff_eq, beq_eq_false_iff_ne, ne_eq, decide_eq_true_eq, decide_eq_false_iff_not, bne_iff_ne, bne_eq_false_iff_eq, Bool.not_eq_true, Bool.not_eq_false, gt_iff_lt, ge_iff_le] at h2) <;> (try (exfalso; omega)))
    · have hm : markOf n = if n < 65536 then 253 else if n < 4294967296 then 254 else 255 := rfl
      (conv => whnf); (cases h3 : (decide (n < 65536) : Bool) <;> (try simp only [beq_iff_eq, beq_eq_false_iff_ne, ne_eq, decide_eq_true_eq, decide_eq_false_iff_not, bne_iff_ne, bne_eq_false_iff_eq, Bool.not_eq_true, Bool.not_eq_false, gt_iff_lt, ge_iff_le] at h3) <;> (try (exfalso; omega)))
      · (conv => whnf); (cases h4 : (decide (n < 4294967296) : Bool) <;> (try simp only [beq_iff_eq, beq_eq_false_iff_ne, ne_eq, decide_eq_true_eq, decide_eq_false_iff_not, bne_iff_ne, bne_eq_false_iff_eq, Bool.not_eq_true, Bool.not_eq_false, gt_iff_lt, ge_iff_le] at h4) <;> (try (exfalso; omega)))
        · rw [if_neg h3, if_neg h4] at hm
          (conv => whnf); (refine Turned.of [] [(0, .int .i64 n), (3, .int .u8 (markOf n))] [] (by rfl) (by rfl) (by rfl) (by (repeat' (first | exact True.intro | exact rfl | refine And.intro ?_ ?_ | (simp [AV.ren, AV.rens, AObj.ren, Ent.ren, AV.inn, AV.inns, AObj.inn, *]; done)))) (by (repeat' (first | exact True.intro | exact rfl | refine And.intro ?_ ?_ | (simp [AV.ren, AV.rens, AObj.ren, Ent.ren, AV.inn, AV.inns, AObj.inn, *]; done)))) ?_); exact ⟨h2, rfl, rfl⟩
        · rw [if_neg h3, if_pos h4] at hm
          (conv => whnf); (refine Turned.of [] [(0, .int .i64 n), (3, .int .u8 (markOf n))] [] (by rfl) (by rfl) (by rfl) (by (repeat' (first | exact True.intro | exact rfl | refine And.intro ?_ ?_ | (simp [AV.ren, AV.rens, AObj.ren, Ent.ren, AV.inn, AV.inns, AObj.inn, *]; done)))) (by (repeat' (first | exact True.intro | exact rfl | refine And.intro ?_ ?_ | (simp [AV.ren, AV.rens, AObj.ren, Ent.ren, AV.inn, AV.inns, AObj.inn, *]; done)))) ?_); exact ⟨h2, rfl, rfl⟩
      · rw [if_pos h3] at hm
        (conv => whnf); (refine Turned.of [] [(0, .int .i64 n), (3, .int .u8 (markOf n))] [] (by rfl) (by rfl) (by rfl) (by (repeat' (first | exact True.intro | exact rfl | refine And.intro ?_ ?_ | (simp [AV.ren, AV.rens, AObj.ren, Ent.ren, AV.inn, AV.inns, AObj.inn, *]; done)))) (by (repeat' (first | exact True.intro | exact rfl | refine And.intro ?_ ?_ | (simp [AV.ren, AV.rens, AObj.ren, Ent.ren, AV.inn, AV.inns, AObj.inn, *]; done)))) ?_); exact ⟨h2, rfl, rfl⟩
    · (conv => whnf)
      (repeat (first | rw [IntWalk.i64_in _ (by omega)] | rw [IntWalk.u8_in _ (by omega)] | rw [IntWalk.u32_in _ (by omega)] | rw [IntWalk.u64_in _ (by omega)]))
      (refine Left.of [0] (.sl 0 0 1 (some 1)) [⟨1, false, none, .ints .u8 [n]⟩] (by rfl) (by rfl) (by rfl) (by (repeat' (first | exact True.intro | exact rfl | refine And.intro ?_ ?_ | (simp [AV.ren, AV.rens, AObj.ren, Ent.ren, AV.inn, AV.inns, AObj.inn, *]; done)))) (by rfl) (by (repeat' (first | exact True.intro | exact rfl | refine And.intro ?_ ?_ | (simp [AV.ren, AV.rens, AObj.ren, Ent.ren, AV.inn, AV.inns, AObj.inn, *]; done)))) ?_)
      rw [show putL n = [n] by simp [putL, h2]]
      exact ⟨some 1, rfl, rfl⟩
  · rintro fr hp ⟨h1, rfl, rfl⟩
    have hm : markOf n = 253 ∧ lenOf n = 2 ∨ markOf n = 254 ∧ lenOf n = 4 ∨ markOf n = 255 ∧ lenOf n = 8 := by
      unfold markOf lenOf; split <;> (try split) <;> simp
    refine AW.pre tokT (fun _ => true) ?_; (conv => whnf); (repeat (first | rw [IntWalk.i64_in _ (by omega)] | rw [IntWalk.u8_in _ (by omega)] | rw [IntWalk.u32_in _ (by omega)] | rw [IntWalk.u64_in _ (by omega)]))
    refine AW.pre tokT (fun _ => true) ?_; (conv => whnf)
    refine AC.pure (size_ok _) (by (repeat' (first | exact True.intro | refine And.intro ?_ ?_))) (by (repeat' (exact True.intro))) ?_
    rw [show (if markOf n = 253 then 2 else if markOf n = 254 then 4 else if markOf n = 255 then 8 else 0 : Int) = (lenOf n : Int) by
      rcases hm with ⟨h, h'⟩ | ⟨h, h'⟩ | ⟨h, h'⟩ <;> rw [h, h'] <;> rfl]
    (conv => whnf)
    (refine AW.turnL [0] [(0, .int .i64 n), (2, .sl 0 0 1 (some 1)), (26, .int .i64 (lenOf n)), (27, .int .i64 0)] [⟨1, false, none, .ints .u8 [markOf n]⟩] (by rfl) (by rfl) (by rfl) (by (repeat' (first | exact True.intro | exact rfl | refine And.intro ?_ ?_ | (simp [AV.ren, AV.rens, AObj.ren, Ent.ren, AV.inn, AV.inns, AObj.inn, *]; done)))) (by (repeat' (first | exact True.intro | exact rfl | refine And.intro ?_ ?_ | (simp [AV.ren, AV.rens, AObj.ren, Ent.ren, AV.inn, AV.inns, AObj.inn, *]; done)))) ?_)
    refine AW.loop (fun m fr hp => ∃ (i : Nat) (cur : Int) (don : List Int) (cap : Option Nat), m = lenOf n - i ∧ i ≤ lenOf n ∧ don.length = i ∧ don ++ leL (lenOf n - i) cur = leL (lenOf n) n ∧ 0 ≤ cur ∧ cur ≤ 4611686018427387904 ∧
      fr = [(0, .int .i64 cur), (2, .sl 0 0 (1 + i) cap), (26, .int .i64 (lenOf n)), (27, .int .i64 i)] ∧ hp = [⟨1, false, none, .ints .u8 (markOf n :: don)⟩]) (lenOf n) ?_ ?_
    · exact ⟨0, n, [], some 1, by simp, by omega, rfl, by simp, h, h', rfl, rfl⟩
    · rintro m fr hp ⟨i, cur, don, cap, rfl, hi, hlen, happ, hc, hc', rfl, rfl⟩ -
      refine AW.post ?_
      refine ev_sound tokT (keep := fun _ => true) ?_
      have hk : lenOf n ≤ 8 := by rcases hm with ⟨_, h⟩ | ⟨_, h⟩ | ⟨_, h⟩ <;> rw [h] <;> decide
      (conv => whnf); (cases hlt : (decide ((↑i : Int) < (↑(lenOf n) : Int)) : Bool) <;> (try simp only [beq_iff_eq, beq_eq_false_iff_ne, ne_eq, decide_eq_true_eq, decide_eq_false_iff_not, bne_iff_ne, bne_eq_false_iff_eq, Bool.not_eq_true, Bool.not_eq_false, gt_iff_lt, ge_iff_le] at hlt) <;> (try (exfalso; omega)))
      · (conv => whnf)
        refine ev_sound tokT (keep := fun _ => true) ?_
        (conv => whnf)
        (refine Left.of [0] (.sl 0 0 (1 + i) cap) [⟨1, false, none, .ints .u8 (markOf n :: don)⟩] (by rfl) (by rfl) (by rfl) (by (repeat' (first | exact True.intro | exact rfl | refine And.intro ?_ ?_ | (simp [AV.ren, AV.rens, AObj.ren, Ent.ren, AV.inn, AV.inns, AObj.inn, *]; done)))) (by rfl) (by (repeat' (first | exact True.intro | exact rfl | refine And.intro ?_ ?_ | (simp [AV.ren, AV.rens, AObj.ren, Ent.ren, AV.inn, AV.inns, AObj.inn, *]; done)))) ?_)
        have hin : i = lenOf n := by omega
        have : markOf n :: don = putL n := by
          rw [putL_big h1, ← happ, hin]; simp [leL]
        rw [← this]
        exact ⟨cap, by simp [hlen, Nat.add_comm], rfl⟩
      · ((conv => whnf); (repeat (((refine And.intro (by first | omega | (simp; done) | (simp; omega) | (simp [roomMost]; omega)) ?_); (conv => whnf)))))
        have e1 : shrI .i64 cur 8 = cur / 256 := by unfold shrI; simp [IntKind.bits]; rw [Int.fdiv_eq_ediv_of_nonneg _ (by omega)]
        have e2 : IntKind.u8.wrap cur = cur % 256 := by rw [IntKind.wrap_u8]
        have e3 : List.take (1 + i) (List.drop 0 (markOf n :: don)) ++ List.take 1 (List.drop 0 [IntKind.u8.wrap cur]) = markOf n :: (don ++ [cur % 256]) := by
          rw [e2, List.drop_zero, List.take_of_length_le (by simp; omega)]; simp
        rw [e1, e3]
        (repeat (first | rw [IntWalk.i64_in _ (by omega)] | rw [IntWalk.u8_in _ (by omega)] | rw [IntWalk.u32_in _ (by omega)] | rw [IntWalk.u64_in _ (by omega)]))
        (refine Turned.of [2] [(0, .int .i64 (cur / 256)), (2, .sl 0 0 (1 + (i + 1)) none), (26, .int .i64 (lenOf n)), (27, .int .i64 ((i + 1 : Nat) : Int))] [⟨1, false, none, .ints .u8 (markOf n :: (don ++ [cur % 256]))⟩] (by rfl) (by rfl) (by rfl) (by (repeat' (first | exact True.intro | exact rfl | refine And.intro ?_ ?_ | (simp [AV.ren, AV.rens, AObj.ren, Ent.ren, AV.inn, AV.inns, AObj.inn, *]; done)))) (by (repeat' (first | exact True.intro | exact rfl | refine And.intro ?_ ?_ | (simp [AV.ren, AV.rens, AObj.ren, Ent.ren, AV.inn, AV.inns, AObj.inn, *]; done)))) ?_)
        refine ⟨lenOf n - (i + 1), by omega, i + 1, cur / 256, don ++ [cur % 256], none, rfl, by omega, by simp [hlen], ?_, by omega, by omega, rfl, rfl⟩
        rw [← happ]
        have : lenOf n - i = (lenOf n - (i + 1)) + 1 := by omega
        rw [this, leL]; simp
end Go.Aw
end

section
/-
  AwNum1: num.Size, num.Put's other end, and the plain one's Put. Own work of this session.
-/
set_option linter.unusedVariables false
set_option linter.unusedSimpArgs false
open Go.Proofs
namespace Go.Aw

def okN (n : Int) : Prop := 0 ≤ n ∧ n ≤ 4611686018427387904
/-- what Put brings -/
def PutR (n : Int) (r : AV) (hp' : Hp) : Prop :=
  (okN n ∧ ∃ cap, r = .sl 0 0 (putL n).length cap ∧ hp' = [⟨1, false, none, .ints .u8 (putL n)⟩]) ∨ (¬ okN n ∧ r = .con (.slice none 0 0) ∧ hp' = [])

theorem put_any (n : Int) : AC Try.prog 22 [.int .i64 n] [] (PutR n) := by
  by_cases hv : okN n
  · exact AC.mono (put_ok n hv.1 hv.2) fun r hp' h => .inl ⟨hv, h⟩
  · have hv' : ¬ (0 ≤ n ∧ n ≤ 4611686018427387904) := hv
    refine AC.body tokT Try.func22 rfl rfl rfl (by decide) (by rfl) ?_
    refine ev_sound tokT (keep := fun _ => true) ?_
    (conv => whnf); (cases h1 : (decide (n < 0) : Bool) <;> (try simp only [beq_iff_eq, beq_eq_false_iff_ne, ne_eq, decide_eq_true_eq, decide_eq_false_iff_not, bne_iff_ne, bne_eq_false_iff_eq, Bool.not_eq_true, Bool.not_eq_false, gt_iff_lt, ge_iff_le] at h1) <;> (try (exfalso; omega)))
    · (conv => whnf); (cases h2 : (decide (n > 4611686018427387904) : Bool) <;> (try simp only [beq_iff_eq, beq_eq_false_iff_ne, ne_eq, decide_eq_true_eq, decide_eq_false_iff_not, bne_iff_ne, bne_eq_false_iff_eq, Bool.not_eq_true, Bool.not_eq_false, gt_iff_lt, ge_iff_le] at h2) <;> (try (exfalso; omega)))
      (conv => whnf); exact .inr ⟨hv, rfl, rfl⟩
    · (conv => whnf); exact .inr ⟨hv, rfl, rfl⟩

theorem fits_ok (n : Int) : AC Try.prog 74 [.int .i64 n] [] (fun r hp' => r = .bool (decide (0 ≤ n ∧ n ≤ 4611686018427387904)) ∧ hp' = []) := by
  refine AC.body tokT Try.func74 rfl rfl rfl (by decide) (by rfl) ?_
  refine ev_sound tokT (keep := fun _ => true) ?_
  (conv => whnf); (cases h1 : (decide (n ≥ 0) : Bool) <;> (try simp only [beq_iff_eq, beq_eq_false_iff_ne, ne_eq, decide_eq_true_eq, decide_eq_false_iff_not, bne_iff_ne, bne_eq_false_iff_eq, Bool.not_eq_true, Bool.not_eq_false, gt_iff_lt, ge_iff_le] at h1) <;> (try (exfalso; omega)))
  · ((conv => whnf); (repeat (((refine And.intro (by (simp; omega)) ?_); (conv => whnf)))))
  · ((conv => whnf); (repeat (((refine And.intro (by (simp; omega)) ?_); (conv => whnf)))))

theorem shr_bytes (n : Int) (i : Nat) (hi : i ≤ 8) : shrI .i64 n (8 * (i : Int)) = n / 256 ^ i := by
  unfold shrI
  rcases i with _ | _ | _ | _ | _ | _ | _ | _ | _ | i
  all_goals first | omega | (simp [IntKind.bits]; try rw [Int.fdiv_eq_ediv_of_nonneg _ (by omega)])
theorem div_bytes (n : Int) (i : Nat) : n / 256 ^ (i + 1) = n / 256 ^ i / 256 := by
  rw [Int.pow_succ, Int.ediv_ediv_of_nonneg (Int.le_of_lt (Int.pow_pos (by omega)))]

theorem ref_put (n : Int) : AC Try.prog 24 [.int .i64 n] [] (PutR n) := by
  refine AC.left (AC.body tokT Try.func24 rfl rfl rfl (by decide) (by rfl) ?_)
  refine AW.pre tokT (fun _ => true) ?_; (conv => whnf)
  refine AW.pre tokT (fun _ => true) ?_; (conv => whnf)
  refine AC.pure (fits_ok n) (by (repeat' (first | exact True.intro | refine And.intro ?_ ?_))) (by (repeat' (exact True.intro))) ?_
  (conv => whnf)
  (cases h0 : (decide (0 ≤ n ∧ n ≤ 4611686018427387904) : Bool) <;> (try simp only [beq_iff_eq, beq_eq_false_iff_ne, ne_eq, decide_eq_true_eq, decide_eq_false_iff_not, bne_iff_ne, bne_eq_false_iff_eq, Bool.not_eq_true, Bool.not_eq_false, gt_iff_lt, ge_iff_le] at h0) <;> (try (exfalso; omega)))
  · (conv => whnf)
    (refine Left.of [] (.con (.slice none 0 0)) [] (by rfl) (by rfl) (by rfl) (by (repeat' (exact True.intro))) (by rfl) (by (repeat' (exact True.intro))) ?_)
    exact .inr ⟨h0, rfl, rfl⟩
  (conv => whnf)
  refine AW.pre tokT (fun _ => true) ?_; (conv => whnf)
  refine AW.pre tokT (fun _ => true) ?_; (conv => whnf)
  refine AW.cutT (fun fr hp => ¬ n < 253 ∧ fr = [(0, .int .i64 n), (3, .sl 0 0 1 none), (4, .int .i64 (lenOf n))] ∧ hp = [⟨1, false, none, .ints .u8 [markOf n]⟩]) ?_ ?_
  · refine ev_sound tokT (keep := fun _ => true) ?_
    (conv => whnf); (cases h2 : (decide (n < 253) : Bool) <;> (try simp only [beq_iff_eq, beq_eq_false_iff_ne, ne_eq, decide_eq_true_eq, decide_eq_false_iff_not, bne_iff_ne, bne_eq_false_iff_eq, Bool.not_eq_true, Bool.not_eq_false, gt_iff_lt, ge_iff_le] at h2) <;> (try (exfalso; omega)))
    · have hm : markOf n = if n < 65536 then 253 else if n < 4294967296 then 254 else 255 := rfl
      have hl : lenOf n = if n < 65536 then 2 else if n < 4294967296 then 4 else 8 := rfl
      (conv => whnf); (cases h3 : (decide (n < 65536) : Bool) <;> (try simp only [beq_iff_eq, beq_eq_false_iff_ne, ne_eq, decide_eq_true_eq, decide_eq_false_iff_not, bne_iff_ne, bne_eq_false_iff_eq, Bool.not_eq_true, Bool.not_eq_false, gt_iff_lt, ge_iff_le] at h3) <;> (try (exfalso; omega)))
      · (conv => whnf); (cases h4 : (decide (n < 4294967296) : Bool) <;> (try simp only [beq_iff_eq, beq_eq_false_iff_ne, ne_eq, decide_eq_true_eq, decide_eq_false_iff_not, bne_iff_ne, bne_eq_false_iff_eq, Bool.not_eq_true, Bool.not_eq_false, gt_iff_lt, ge_iff_le] at h4) <;> (try (exfalso; omega)))
        · rw [if_neg h3, if_neg h4] at hm hl
          ((conv => whnf); (repeat (first | ((refine And.intro (by first | (simp; done) | (simp [roomMost, *]; done)) ?_); (conv => whnf)) | ((intro (hlt : _ < _)); (conv => whnf)))))
          (refine Turned.of [1] [(0, .int .i64 n), (3, .sl 0 0 1 none), (4, .int .i64 (lenOf n))] [⟨1, false, none, .ints .u8 [markOf n]⟩] (by rfl) (by rfl) (by rfl) (by (repeat' (first | exact True.intro | exact rfl | refine And.intro ?_ ?_ | (simp [AV.ren, AV.rens, AObj.ren, Ent.ren, AV.inn, AV.inns, AObj.inn, *]; done)))) (by (repeat' (first | exact True.intro | exact rfl | refine And.intro ?_ ?_ | (simp [AV.ren, AV.rens, AObj.ren, Ent.ren, AV.inn, AV.inns, AObj.inn, *]; done)))) ?_)
          exact ⟨h2, rfl, rfl⟩
        · rw [if_neg h3, if_pos h4] at hm hl
          ((conv => whnf); (repeat (first | ((refine And.intro (by first | (simp; done) | (simp [roomMost, *]; done)) ?_); (conv => whnf)) | ((intro (hlt : _ < _)); (conv => whnf)))))
          (refine Turned.of [1] [(0, .int .i64 n), (3, .sl 0 0 1 none), (4, .int .i64 (lenOf n))] [⟨1, false, none, .ints .u8 [markOf n]⟩] (by rfl) (by rfl) (by rfl) (by (repeat' (first | exact True.intro | exact rfl | refine And.intro ?_ ?_ | (simp [AV.ren, AV.rens, AObj.ren, Ent.ren, AV.inn, AV.inns, AObj.inn, *]; done)))) (by (repeat' (first | exact True.intro | exact rfl | refine And.intro ?_ ?_ | (simp [AV.ren, AV.rens, AObj.ren, Ent.ren, AV.inn, AV.inns, AObj.inn, *]; done)))) ?_)
          exact ⟨h2, rfl, rfl⟩
      · rw [if_pos h3] at hm hl
        ((conv => whnf); (repeat (first | ((refine And.intro (by first | (simp; done) | (simp [roomMost, *]; done)) ?_); (conv => whnf)) | ((intro (hlt : _ < _)); (conv => whnf)))))
        (refine Turned.of [1] [(0, .int .i64 n), (3, .sl 0 0 1 none), (4, .int .i64 (lenOf n))] [⟨1, false, none, .ints .u8 [markOf n]⟩] (by rfl) (by rfl) (by rfl) (by (repeat' (first | exact True.intro | exact rfl | refine And.intro ?_ ?_ | (simp [AV.ren, AV.rens, AObj.ren, Ent.ren, AV.inn, AV.inns, AObj.inn, *]; done)))) (by (repeat' (first | exact True.intro | exact rfl | refine And.intro ?_ ?_ | (simp [AV.ren, AV.rens, AObj.ren, Ent.ren, AV.inn, AV.inns, AObj.inn, *]; done)))) ?_)
        exact ⟨h2, rfl, rfl⟩
    · (conv => whnf)
      (repeat (first | rw [IntWalk.i64_in _ (by omega)] | rw [IntWalk.u8_in _ (by omega)] | rw [IntWalk.u32_in _ (by omega)] | rw [IntWalk.u64_in _ (by omega)]))
      (refine Left.of [0] (.sl 0 0 1 (some 1)) [⟨1, false, none, .ints .u8 [n]⟩] (by rfl) (by rfl) (by rfl) (by (repeat' (first | exact True.intro | exact rfl | refine And.intro ?_ ?_ | (simp [AV.ren, AV.rens, AObj.ren, Ent.ren, AV.inn, AV.inns, AObj.inn, *]; done)))) (by rfl) (by (repeat' (first | exact True.intro | exact rfl | refine And.intro ?_ ?_ | (simp [AV.ren, AV.rens, AObj.ren, Ent.ren, AV.inn, AV.inns, AObj.inn, *]; done)))) ?_)
      have : putL n = [n] := by simp [putL, h2]
      exact .inl ⟨h0, some 1, by rw [this]; rfl, by rw [this]⟩
  · rintro fr hp ⟨h2, rfl, rfl⟩
    have hk : lenOf n ≤ 8 := by unfold lenOf; split <;> (try split) <;> decide
    refine AW.pre tokT (fun _ => true) ?_; (conv => whnf)
    (refine AW.turnL [0] [(0, .int .i64 n), (3, .sl 0 0 1 none), (4, .int .i64 (lenOf n)), (5, .int .i64 0)] [⟨1, false, none, .ints .u8 [markOf n]⟩] (by rfl) (by rfl) (by rfl) (by (repeat' (first | exact True.intro | exact rfl | refine And.intro ?_ ?_ | (simp [AV.ren, AV.rens, AObj.ren, Ent.ren, AV.inn, AV.inns, AObj.inn, *]; done)))) (by (repeat' (first | exact True.intro | exact rfl | refine And.intro ?_ ?_ | (simp [AV.ren, AV.rens, AObj.ren, Ent.ren, AV.inn, AV.inns, AObj.inn, *]; done)))) ?_)
    refine AW.loop (fun m fr hp => ∃ (i : Nat) (don : List Int), m = lenOf n - i ∧ i ≤ lenOf n ∧ don.length = i ∧ don ++ leL (lenOf n - i) (n / 256 ^ i) = leL (lenOf n) n ∧
      fr = [(0, .int .i64 n), (3, .sl 0 0 (1 + i) none), (4, .int .i64 (lenOf n)), (5, .int .i64 i)] ∧ hp = [⟨1, false, none, .ints .u8 (markOf n :: don)⟩]) (lenOf n) ?_ ?_
    · exact ⟨0, [], by simp, by omega, rfl, by simp, rfl, rfl⟩
    · rintro m fr hp ⟨i, don, rfl, hi, hlen, happ, rfl, rfl⟩ -
      refine AW.post ?_
      refine ev_sound tokT (keep := fun _ => true) ?_
      (conv => whnf); (cases hlt : (decide ((↑i : Int) < (↑(lenOf n) : Int)) : Bool) <;> (try simp only [beq_iff_eq, beq_eq_false_iff_ne, ne_eq, decide_eq_true_eq, decide_eq_false_iff_not, bne_iff_ne, bne_eq_false_iff_eq, Bool.not_eq_true, Bool.not_eq_false, gt_iff_lt, ge_iff_le] at hlt) <;> (try (exfalso; omega)))
      · (conv => whnf)
        refine ev_sound tokT (keep := fun _ => true) ?_
        (conv => whnf)
        (refine Left.of [0] (.sl 0 0 (1 + i) none) [⟨1, false, none, .ints .u8 (markOf n :: don)⟩] (by rfl) (by rfl) (by rfl) (by (repeat' (first | exact True.intro | exact rfl | refine And.intro ?_ ?_ | (simp [AV.ren, AV.rens, AObj.ren, Ent.ren, AV.inn, AV.inns, AObj.inn, *]; done)))) (by rfl) (by (repeat' (first | exact True.intro | exact rfl | refine And.intro ?_ ?_ | (simp [AV.ren, AV.rens, AObj.ren, Ent.ren, AV.inn, AV.inns, AObj.inn, *]; done)))) ?_)
        have hin : i = lenOf n := by omega
        have : putL n = markOf n :: don := by
          rw [putL_big h2, ← happ, hin]; simp [leL]
        exact .inl ⟨h0, none, by rw [this]; simp [hlen, Nat.add_comm], by rw [this]⟩
      · ((conv => whnf); (repeat (((refine And.intro (by first | (simp; done) | (simp; omega) | (simp [roomMost]; omega) | ((repeat (first | rw [IntWalk.i64_in _ (by omega)] | rw [IntWalk.u8_in _ (by omega)] | rw [IntWalk.u32_in _ (by omega)] | rw [IntWalk.u64_in _ (by omega)])); omega)) ?_); (conv => whnf)))))
        have e1 : IntKind.i64.wrap (8 * (i : Int)) = 8 * (i : Int) := IntWalk.i64_in _ (by omega)
        have e2 : IntKind.u8.wrap (n / 256 ^ i) = (n / 256 ^ i) % 256 := by rw [IntKind.wrap_u8]
        have e3 : List.take (1 + i) (List.drop 0 (markOf n :: don)) ++ List.take 1 (List.drop 0 [n / 256 ^ i % 256]) = markOf n :: (don ++ [n / 256 ^ i % 256]) := by
          rw [List.drop_zero, List.take_of_length_le (by simp; omega)]; simp
        rw [e1, shr_bytes n i (by omega), e2, e3]
        (repeat (first | rw [IntWalk.i64_in _ (by omega)] | rw [IntWalk.u8_in _ (by omega)] | rw [IntWalk.u32_in _ (by omega)] | rw [IntWalk.u64_in _ (by omega)]))
        (refine Turned.of [2] [(0, .int .i64 n), (3, .sl 0 0 (1 + (i + 1)) none), (4, .int .i64 (lenOf n)), (5, .int .i64 ((i + 1 : Nat) : Int))] [⟨1, false, none, .ints .u8 (markOf n :: (don ++ [n / 256 ^ i % 256]))⟩] (by rfl) (by rfl) (by rfl) (by (repeat' (first | exact True.intro | exact rfl | refine And.intro ?_ ?_ | (simp [AV.ren, AV.rens, AObj.ren, Ent.ren, AV.inn, AV.inns, AObj.inn, *]; done)))) (by (repeat' (first | exact True.intro | exact rfl | refine And.intro ?_ ?_ | (simp [AV.ren, AV.rens, AObj.ren, Ent.ren, AV.inn, AV.inns, AObj.inn, *]; done)))) ?_)
        refine ⟨lenOf n - (i + 1), by omega, i + 1, don ++ [n / 256 ^ i % 256], rfl, by omega, by simp [hlen], ?_, rfl, rfl⟩
        rw [← happ]
        have : lenOf n - i = (lenOf n - (i + 1)) + 1 := by omega
        rw [this, leL, div_bytes]; simp
end Go.Aw
end

section
/-
  AwNumR: Round. Own work.
-/
set_option linter.unusedVariables false
set_option linter.unusedSimpArgs false
set_option maxRecDepth 20000
open Go.Proofs
namespace Go.Aw
theorem round_ok (k n : Int) (h0 : 0 < n) (h1 : n ≤ 4611686018427387904) : AC Try.prog 28 [.int .i64 k, .int .i64 n] [] (fun r hp' => r = .int .i64 (k % n) ∧ hp' = []) := by
  refine AC.left (AC.body tokT Try.func28 rfl rfl rfl (by decide) (by rfl) ?_)
  refine ev_sound tokT (keep := fun _ => true) ?_
  ((conv => whnf); (repeat (((refine And.intro (by omega) ?_); (conv => whnf)))))
  have hm0 := Int.emod_nonneg k (show n ≠ 0 by omega)
  have hm1 := Int.emod_lt_of_pos k h0
  have ht : k.tmod n = k % n ∨ k.tmod n = k % n - n := by
    rw [Int.tmod_eq_emod]
    split
    · left; omega
    · right
      have : (n.natAbs : Int) = n := by omega
      rw [this]
  rw [IntWalk.i64_in _ (by omega)]
  have e : (k.tmod n + n).tmod n = k % n := by
    rw [Int.tmod_eq_emod_of_nonneg (by omega), Int.add_emod_right]
    rcases ht with h | h <;> rw [h]
    · exact Int.emod_emod_of_dvd _ (Int.dvd_refl n)
    · rw [Int.sub_emod_right]; exact Int.emod_emod_of_dvd _ (Int.dvd_refl n)
  rw [e]
  (refine Left.of [] (.int .i64 (k % n)) [] (by rfl) (by rfl) (by rfl) (by (repeat' (exact True.intro))) (by rfl) (by (repeat' (exact True.intro))) ?_)
  exact ⟨rfl, rfl⟩

end Go.Aw
end
