/-
  AwSr1: the plain sum's words and chunk. Own work.
-/
import Derived.Test.YtdababcblhbpeaaAwSh4
set_option linter.unusedVariables false
set_option linter.unusedSimpArgs false
set_option maxRecDepth 20000
open Go.Proofs
namespace Go.Aw

theorem w_back (k : Nat) (h : k ≤ 31) : IntKind.i64.wrap (32 - (k : Int)) = ((32 - k : Nat) : Int) := by rw [IntWalk.i64_in _ (by omega)]; omega

theorem drawn_ok (x : W32) (a b c : Nat) (ha : a ≤ 31) (hb : b ≤ 31) (hc : c ≤ 31) :
    AC Try.prog 110 [.int .u32 (wI x), .int .i64 a, .int .i64 b, .int .i64 c] [] (fun r hp' => r = .int .u32 (wI (threeW x a b c true)) ∧ hp' = []) := by
  refine AC.left (AC.body tokT Try.func110 rfl rfl rfl (by decide) (by rfl) ?_)
  have ea := w_back a ha
  have eb := w_back b hb
  have ea0 : 0 ≤ IntKind.i64.wrap (32 - (a : Int)) := by rw [ea]; omega
  have eb0 : 0 ≤ IntKind.i64.wrap (32 - (b : Int)) := by rw [eb]; omega
  refine AW.pre tokT (fun _ => true) ?_; (conv => whnf)
  refine AW.seq (AW.draw [(false, 0), (false, 1), (false, 2), (false, 3), (false, 4), (false, 5), (false, 6), (false, 7), (false, 8), (false, 9), (false, 10), (false, 11), (false, 12), (false, 13), (false, 14), (false, 15), (false, 16), (false, 17), (false, 18), (false, 19), (false, 20), (false, 21)] (keep := fun _ => true) mixed_ok' tokT (by kernel_rfl) (by kernel_rfl) ?_)
  ((conv => whnf); (repeat (((refine Exists.intro _ (And.intro (by ((conv => whnf); (repeat ((refine And.intro (by first | exact rfl | assumption | omega) ?_); (conv => whnf))))) ?_)); (conv => whnf)))))
  rw [ea, eb, w_shr _ _ (by omega), w_shl _ _ (by omega), w_or, w_shr _ _ (by omega), w_shl _ _ (by omega), w_or, w_xor, w_shr _ _ (by omega), w_xor]
  refine ev_sound tokT (keep := fun _ => true) ?_
  (conv => whnf)
  (refine Left.of [] (.int .u32 (wI (threeW x a b c true))) [] (by rfl) (by rfl) (by rfl) (by (repeat' (exact True.intro))) (by rfl) (by (repeat' (exact True.intro))) ?_)
  exact ⟨rfl, rfl⟩

theorem mixed3_ok (x : W32) (a b c : Nat) (ha : a ≤ 31) (hb : b ≤ 31) (hc : c ≤ 31) :
    AC Try.prog 111 [.int .u32 (wI x), .int .i64 a, .int .i64 b, .int .i64 c] [] (fun r hp' => r = .int .u32 (wI (threeW x a b c false)) ∧ hp' = []) := by
  refine AC.left (AC.body tokT Try.func111 rfl rfl rfl (by decide) (by rfl) ?_)
  have ea := w_back a ha
  have eb := w_back b hb
  have ec := w_back c hc
  have ea0 : 0 ≤ IntKind.i64.wrap (32 - (a : Int)) := by rw [ea]; omega
  have eb0 : 0 ≤ IntKind.i64.wrap (32 - (b : Int)) := by rw [eb]; omega
  have ec0 : 0 ≤ IntKind.i64.wrap (32 - (c : Int)) := by rw [ec]; omega
  refine AW.pre tokT (fun _ => true) ?_; (conv => whnf)
  refine AW.seq (AW.draw [(false, 0), (false, 1), (false, 2), (false, 3), (false, 4), (false, 5), (false, 6), (false, 7), (false, 8), (false, 9), (false, 10), (false, 11), (false, 12), (false, 13), (false, 14), (false, 15), (false, 16), (false, 17), (false, 18), (false, 19), (false, 20), (false, 21), (false, 22), (false, 23), (false, 24), (false, 25), (false, 26)] (keep := fun _ => true) mixed_ok' tokT (by kernel_rfl) (by kernel_rfl) ?_)
  ((conv => whnf); (repeat (((refine Exists.intro _ (And.intro (by ((conv => whnf); (repeat ((refine And.intro (by first | exact rfl | assumption | omega) ?_); (conv => whnf))))) ?_)); (conv => whnf)))))
  rw [ea, eb, ec, w_shr _ _ (by omega), w_shl _ _ (by omega), w_or, w_shr _ _ (by omega), w_shl _ _ (by omega), w_or, w_xor, w_shr _ _ (by omega), w_shl _ _ (by omega), w_or, w_xor]
  refine ev_sound tokT (keep := fun _ => true) ?_
  (conv => whnf)
  (refine Left.of [] (.int .u32 (wI (threeW x a b c false))) [] (by rfl) (by rfl) (by rfl) (by (repeat' (exact True.intro))) (by rfl) (by (repeat' (exact True.intro))) ?_)
  exact ⟨rfl, rfl⟩

theorem steps_ok : AC Try.prog 109 [] [] (fun r hp' => r = .sl 0 0 64 (some 64) ∧ hp' = [⟨1, false, none, .ints .u32 (kT.map Int.ofNat)⟩]) := by
  refine AC.left (AC.body tokT Try.func109 rfl rfl rfl (by decide) (by rfl) ?_)
  refine ev_sound tokT (keep := fun _ => true) ?_
  (conv => whnf)
  (refine Left.of [0] (.sl 0 0 64 (some 64)) [⟨1, false, none, .ints .u32 (kT.map Int.ofNat)⟩] (by rfl) (by rfl) (by rfl) (by (repeat' (first | exact True.intro | exact rfl | refine And.intro ?_ ?_ | (simp [AV.ren, AV.rens, AObj.ren, Ent.ren, AV.inn, AV.inns, AObj.inn, *]; done)))) (by rfl) (by (repeat' (first | exact True.intro | exact rfl | refine And.intro ?_ ?_ | (simp [AV.ren, AV.rens, AObj.ren, Ent.ren, AV.inn, AV.inns, AObj.inn, *]; done)))) ?_)
  exact ⟨rfl, rfl⟩

theorem and15 (x : Nat) (h : x < 9223372036854775808) : andI .i64 (x : Int) 15 = ((x % 16 : Nat) : Int) := by
  unfold andI
  show IntKind.i64.wrap (((BitVec.ofInt 64 (x : Int) &&& BitVec.ofInt 64 15).toNat : Nat) : Int) = _
  have : (BitVec.ofInt 64 (x : Int) &&& BitVec.ofInt 64 15).toNat = x % 16 := by
    rw [BitVec.toNat_and, BitVec.ofInt_natCast, BitVec.toNat_ofNat]
    rw [show (BitVec.ofInt 64 15).toNat = 2 ^ 4 - 1 by decide, Nat.and_two_pow_sub_one_eq_mod]
    omega
  rw [this, IntWalk.i64_in _ (by omega)]

/-- the ring of sixteen words ahead of round t -/
def ringI (S : List W32) (t : Nat) : List Int := (List.range 16).map fun j => wI (if t ≤ j then 0 else S.getD (t - 1 - (t - 1 - j) % 16) 0)
theorem ringI_length (S : List W32) (t : Nat) : (ringI S t).length = 16 := by simp [ringI]
theorem ringI_get (S : List W32) (t : Nat) {j : Nat} (h : j < 16) : (ringI S t).getD j 0 = wI (if t ≤ j then 0 else S.getD (t - 1 - (t - 1 - j) % 16) 0) := by
  simp only [ringI, List.getD_eq_getElem?_getD, List.getElem?_map, List.getElem?_range h, Option.map_some, Option.getD_some]
theorem ringI_back (S : List W32) {t q : Nat} (h : 16 ≤ t) (h1 : 1 ≤ q) (h2 : q ≤ 16) : (ringI S t).getD ((t - q) % 16) 0 = wI (S.getD (t - q) 0) := by
  rw [ringI_get S t (by omega), if_neg (by omega)]
  congr 2; omega
theorem ringI_set (S : List W32) (t : Nat) : (ringI S t).set (t % 16) (wI (S.getD t 0)) = ringI S (t + 1) := by
  apply List.ext_getElem?
  intro i
  rcases Nat.lt_or_ge i 16 with hi | hi
  · rw [List.getElem?_set]
    simp only [ringI, List.getElem?_map, List.getElem?_range hi, Option.map_some, List.length_map, List.length_range]
    split
    · rename_i e
      rw [if_pos (by omega), if_neg (by omega)]
      congr 3; omega
    · rename_i e
      congr 2
      by_cases h : t ≤ i
      · rw [if_pos h, if_pos (by omega)]
      · rw [if_neg h, if_neg (by omega)]
        congr 1; omega
  · rw [List.getElem?_eq_none (by simp [ringI]; omega), List.getElem?_eq_none (by simp [ringI]; omega)]

/-- a word, its bytes coming one by one -/
def partW (L : List Int) (t : Nat) : Nat → W32
  | 0 => 0
  | i + 1 => partW L t i <<< 8 ||| bW (L.getD (4 * t + i) 0)
theorem partW_all (L : List Int) (t : Nat) : partW L t 4 = wordAt L t := by
  simp only [partW, wordAt]
  simp only [BitVec.shiftLeft_or_distrib, ← BitVec.shiftLeft_add, BitVec.or_assoc]
  simp
end Go.Aw
