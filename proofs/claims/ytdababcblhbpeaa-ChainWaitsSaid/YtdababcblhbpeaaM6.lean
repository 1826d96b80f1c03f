/-
  Own work: parts of the proof: AwSr1 AwSr2 AwSr3 AwSh6.
-/
import Derived.Test.YtdababcblhbpeaaM5
import Derived.Test.YtdababcblhbpeaaM3

section
/-
  AwSr1: the plain sum's words and chunk. Own work.
-/
set_option linter.unusedVariables false
set_option linter.unusedSimpArgs false
set_option maxRecDepth 20000
open Go.Proofs
namespace Go.Aw

theorem w_back (k : Nat) (h : k ≤ 31) : IntKind.i64.wrap (32 - (k : Int)) = ((32 - k : Nat) : Int) := by rw [IntWalk.i64_in _ (by omega)]; omega

theorem drawn_ok (x : W32) (a b c : Nat) (ha : a ≤ 31) (hb : b ≤ 31) (hc : c ≤ 31) :
    AC Try.prog 110 [.int .u32 (wI x), .int .i64 a, .int .i64 b, .int .i64 c] [] (fun r hp' => r = .int .u32 (wI (threeW x a b c true)) ∧ hp' = []) := by
  refine AC.left (AC.body tokT Try.func110 rfl rfl rfl (by decide) (by rfl) ?_)
  have ea := w_back a ha
  have eb := w_back b hb
  have ea0 : 0 ≤ IntKind.i64.wrap (32 - (a : Int)) := by rw [ea]; omega
  have eb0 : 0 ≤ IntKind.i64.wrap (32 - (b : Int)) := by rw [eb]; omega
  refine AW.pre tokT (fun _ => true) ?_; (conv => whnf)
  refine AW.seq (AW.draw [(false, 0), (false, 1), (false, 2), (false, 3), (false, 4), (false, 5), (false, 6), (false, 7), (false, 8), (false, 9), (false, 10), (false, 11), (false, 12), (false, 13), (false, 14), (false, 15), (false, 16), (false, 17), (false, 18), (false, 19), (false, 20), (false, 21)] (keep := fun _ => true) mixed_ok' tokT (by kernel_rfl) (by kernel_rfl) ?_)
  ((conv => whnf); (repeat (((refine Exists.intro _ (And.intro (by ((conv => whnf); (repeat ((refine And.intro (by first | exact rfl | assumption | omega) ?_); (conv => whnf))))) ?_)); (conv => whnf)))))
  rw [ea, eb, w_shr _ _ (by omega), w_shl _ _ (by omega), w_or, w_shr _ _ (by omega), w_shl _ _ (by omega), w_or, w_xor, w_shr _ _ (by omega), w_xor]
  refine ev_sound tokT (keep := fun _ => true) ?_
  (conv => whnf)
  (refine Left.of [] (.int .u32 (wI (threeW x a b c true))) [] (by rfl) (by rfl) (by rfl) (by (repeat' (exact True.intro))) (by rfl) (by (repeat' (exact True.intro))) ?_)
  exact ⟨rfl, rfl⟩

theorem mixed3_ok (x : W32) (a b c : Nat) (ha : a ≤ 31) (hb : b ≤ 31) (hc : c ≤ 31) :
    AC Try.prog 111 [.int .u32 (wI x), .int .i64 a, .int .i64 b, .int .i64 c] [] (fun r hp' => r = .int .u32 (wI (threeW x a b c false)) ∧ hp' = []) := by
  refine AC.left (AC.body tokT Try.func111 rfl rfl rfl (by decide) (by rfl) ?_)
  have ea := w_back a ha
  have eb := w_back b hb
  have ec := w_back c hc
  have ea0 : 0 ≤ IntKind.i64.wrap (32 - (a : Int)) := by rw [ea]; omega
  have eb0 : 0 ≤ IntKind.i64.wrap (32 - (b : Int)) := by rw [eb]; omega
  have ec0 : 0 ≤ IntKind.i64.wrap (32 - (c : Int)) := by rw [ec]; omega
  refine AW.pre tokT (fun _ => true) ?_; (conv => whnf)
  refine AW.seq (AW.draw [(false, 0), (false, 1), (false, 2), (false, 3), (false, 4), (false, 5), (false, 6), (false, 7), (false, 8), (false, 9), (false, 10), (false, 11), (false, 12), (false, 13), (false, 14), (false, 15), (false, 16), (false, 17), (false, 18), (false, 19), (false, 20), (false, 21), (false, 22), (false, 23), (false, 24), (false, 25), (false, 26)] (keep := fun _ => true) mixed_ok' tokT (by kernel_rfl) (by kernel_rfl) ?_)
  ((conv => whnf); (repeat (((refine Exists.intro _ (And.intro (by ((conv => whnf); (repeat ((refine And.intro (by first | exact rfl | assumption | omega) ?_); (conv => whnf))))) ?_)); (conv => whnf)))))
  rw [ea, eb, ec, w_shr _ _ (by omega), w_shl _ _ (by omega), w_or, w_shr _ _ (by omega), w_shl _ _ (by omega), w_or, w_xor, w_shr _ _ (by omega), w_shl _ _ (by omega), w_or, w_xor]
  refine ev_sound tokT (keep := fun _ => true) ?_
  (conv => whnf)
  (refine Left.of [] (.int .u32 (wI (threeW x a b c false))) [] (by rfl) (by rfl) (by rfl) (by (repeat' (exact True.intro))) (by rfl) (by (repeat' (exact True.intro))) ?_)
  exact ⟨rfl, rfl⟩

theorem steps_ok : AC Try.prog 109 [] [] (fun r hp' => r = .sl 0 0 64 (some 64) ∧ hp' = [⟨1, false, none, .ints .u32 (kT.map Int.ofNat)⟩]) := by
  refine AC.left (AC.body tokT Try.func109 rfl rfl rfl (by decide) (by rfl) ?_)
  refine ev_sound tokT (keep := fun _ => true) ?_
  (conv => whnf)
  (refine Left.of [0] (.sl 0 0 64 (some 64)) [⟨1, false, none, .ints .u32 (kT.map Int.ofNat)⟩] (by rfl) (by rfl) (by rfl) (by (repeat' (first | exact True.intro | exact rfl | refine And.intro ?_ ?_ | (simp [AV.ren, AV.rens, AObj.ren, Ent.ren, AV.inn, AV.inns, AObj.inn, *]; done)))) (by rfl) (by (repeat' (first | exact True.intro | exact rfl | refine And.intro ?_ ?_ | (simp [AV.ren, AV.rens, AObj.ren, Ent.ren, AV.inn, AV.inns, AObj.inn, *]; done)))) ?_)
  exact ⟨rfl, rfl⟩

theorem and15 (x : Nat) (h : x < 9223372036854775808) : andI .i64 (x : Int) 15 = ((x % 16 : Nat) : Int) := by
  unfold andI
  show IntKind.i64.wrap (((BitVec.ofInt 64 (x : Int) &&& BitVec.ofInt 64 15).toNat : Nat) : Int) = _
  have : (BitVec.ofInt 64 (x : Int) &&& BitVec.ofInt 64 15).toNat = x % 16 := by
    rw [BitVec.toNat_and, BitVec.ofInt_natCast, BitVec.toNat_ofNat]
    rw [show (BitVec.ofInt 64 15).toNat = 2 ^ 4 - 1 by decide, Nat.and_two_pow_sub_one_eq_mod]
    omega
  rw [this, IntWalk.i64_in _ (by omega)]

/-- the ring of sixteen words ahead of round t -/
def ringI (S : List W32) (t : Nat) : List Int := (List.range 16).map fun j => wI (if t ≤ j then 0 else S.getD (t - 1 - (t - 1 - j) % 16) 0)
theorem ringI_length (S : List W32) (t : Nat) : (ringI S t).length = 16 := by simp [ringI]
theorem ringI_get (S : List W32) (t : Nat) {j : Nat} (h : j < 16) : (ringI S t).getD j 0 = wI (if t ≤ j then 0 else S.getD (t - 1 - (t - 1 - j) % 16) 0) := by
  simp only [ringI, List.getD_eq_getElem?_getD, List.getElem?_map, List.getElem?_range h, Option.map_some, Option.getD_some]
theorem ringI_back (S : List W32) {t q : Nat} (h : 16 ≤ t) (h1 : 1 ≤ q) (h2 : q ≤ 16) : (ringI S t).getD ((t - q) % 16) 0 = wI (S.getD (t - q) 0) := by
  rw [ringI_get S t (by omega), if_neg (by omega)]
  congr 2; omega
theorem ringI_set (S : List W32) (t : Nat) : (ringI S t).set (t % 16) (wI (S.getD t 0)) = ringI S (t + 1) := by
  apply List.ext_getElem?
  intro i
  rcases Nat.lt_or_ge i 16 with hi | hi
  · rw [List.getElem?_set]
    simp only [ringI, List.getElem?_map, List.getElem?_range hi, Option.map_some, List.length_map, List.length_range]
    split
    · rename_i e
      rw [if_pos (by omega), if_neg (by omega)]
      congr 3; omega
    · rename_i e
      congr 2
      by_cases h : t ≤ i
      · rw [if_pos h, if_pos (by omega)]
      · rw [if_neg h, if_neg (by omega)]
        congr 1; omega
  · rw [List.getElem?_eq_none (by simp [ringI]; omega), List.getElem?_eq_none (by simp [ringI]; omega)]

/-- a word, its bytes coming one by one -/
def partW (L : List Int) (t : Nat) : Nat → W32
  | 0 => 0
  | i + 1 => partW L t i <<< 8 ||| bW (L.getD (4 * t + i) 0)
theorem partW_all (L : List Int) (t : Nat) : partW L t 4 = wordAt L t := by
  simp only [partW, wordAt]
  simp only [BitVec.shiftLeft_or_distrib, ← BitVec.shiftLeft_add, BitVec.or_assoc]
  simp
end Go.Aw
end

section
/-
  AwSr2: the plain sum's chunk. Own work.
-/
set_option linter.unusedVariables false
set_option linter.unusedSimpArgs false
set_option maxRecDepth 20000
open Go.Proofs

namespace Go.Aw
attribute [local irreducible] IntKind.wrap andI orI xorI shlI shrI

theorem ringI_now (S : List W32) (t : Nat) : (ringI S (t + 1)).getD (t % 16) 0 = wI (S.getD t 0) := by
  rw [ringI_get S (t + 1) (by omega), if_neg (by omega)]
  congr 2; omega
/-- the eight words, those behind place i moved on -/
def shI (l : List Int) (i : Nat) : List Int := l.take (i + 1) ++ (l.drop i).take (7 - i)
theorem shI_step (t : St) {i : Nat} (h0 : 1 ≤ i) (h : i ≤ 7) : (shI t.l i).set i ((shI t.l i).getD (i - 1) 0) = shI t.l (i - 1) := by
  have : i = 1 ∨ i = 2 ∨ i = 3 ∨ i = 4 ∨ i = 5 ∨ i = 6 ∨ i = 7 := by omega
  rcases this with rfl | rfl | rfl | rfl | rfl | rfl | rfl <;> rfl

abbrev ckF (cap : Option Nat) (off : Nat) (t : Int) : Fr := [(1, .sl 0 off 64 cap), (2, .ptr 1 0 0 0), (4, .ptr 2 0 0 0), (5, .sl 3 0 64 (some 64)), (6, .ptr 4 0 0 0), (7, .ptr 5 0 0 0), (8, .int .i64 t)]
abbrev ckH (xs : List Int) (s : St) (ring : List Int) (a : List Int) : Hp := [⟨1, true, none, .ints .u8 xs⟩, ⟨8, false, none, .var [.ints .u32 8 s.l]⟩, ⟨8, false, none, .var [.ints .u32 8 (List.replicate 8 0)]⟩, ⟨1, false, none, .ints .u32 (kT.map Int.ofNat)⟩, ⟨16, false, none, .var [.ints .u32 16 ring]⟩, ⟨8, false, none, .var [.ints .u32 8 a]⟩]

set_option maxHeartbeats 2000000 in
theorem chunk_ok (s : St) (xs : List Int) (off : Nat) (cap : Option Nat) (hol : off + 64 ≤ xs.length) :
    AC Try.prog 80 [.agg [.ints .u32 8 s.l], .sl 0 off 64 cap] [⟨1, true, none, .ints .u8 xs⟩]
      (fun r hp' => r = .agg [.ints .u32 8 (compr s (wordsOf ((xs.drop off).take 64))).l] ∧ hp' = [⟨1, true, none, .ints .u8 xs⟩]) := by
  refine AC.left (AC.body tokT Try.func80 rfl rfl rfl (by decide) (by rfl) ?_)
  obtain ⟨L, hL⟩ : ∃ L, (xs.drop off).take 64 = L := ⟨_, rfl⟩
  have hLg : ∀ j, j < 64 → xs.getD (off + j) 0 = L.getD j 0 := fun j hj => by
    rw [← hL, List.getD_eq_getElem?_getD, List.getD_eq_getElem?_getD, List.getElem?_take_of_lt hj, List.getElem?_drop]
  rw [hL]
  obtain ⟨m, hm⟩ : ∃ m, wordsOf L = m := ⟨_, rfl⟩
  have hml : m.length = 16 := by rw [← hm, wordsOf_length]
  have hmg : ∀ t, t < 16 → (sch m 48).getD t 0 = wordAt L t := fun t ht => by
    have h48 := sch_prefix m 0 48 t (by omega)
    rw [Nat.zero_add] at h48
    rw [h48, ← wordsOf_get L ht, hm]; rfl
  obtain ⟨S, hS⟩ : ∃ S, sch m 48 = S := ⟨_, rfl⟩
  rw [hm]
  refine AW.pre tokT (fun _ => true) ?_; (conv => whnf)
  refine AW.pre tokT (fun _ => true) ?_; (conv => whnf)
  refine AC.frame steps_ok [] (by (repeat' (exact True.intro))) (by rfl) (by (repeat' (exact True.intro))) (by rfl) ?_
  rintro r0 hp0 ⟨rfl, rfl⟩
  (conv => whnf)
  refine AW.pre tokT (fun _ => true) ?_; (conv => whnf)
  refine AW.pre tokT (fun _ => true) ?_; (conv => whnf)
  refine AW.cutT (fun fr hp => fr = ckF cap off 64 ∧ hp = ckH xs s (ringI S 64) (sts s S 64).l) ?_ ?_
  · refine AW.pre tokT (fun _ => true) ?_; (conv => whnf)
    refine AW.block ?_
    have hr0 : ringI S 0 = List.replicate 16 0 := by simp [ringI]; rfl
    (refine AW.turnL [0, 1, 2, 3, 4, 5] (ckF cap off 0) (ckH xs s (List.replicate 16 0) s.l) (by rfl) (by rfl) (by rfl) (by (repeat' (first | exact True.intro | exact rfl | refine And.intro ?_ ?_ | (simp [AV.ren, AV.rens, AObj.ren, Ent.ren, AV.inn, AV.inns, AObj.inn, *]; done)))) (by (repeat' (first | exact True.intro | exact rfl | refine And.intro ?_ ?_ | (simp [AV.ren, AV.rens, AObj.ren, Ent.ren, AV.inn, AV.inns, AObj.inn, *]; done)))) ?_)
    refine AW.loop (fun q fr hp => ∃ t, q = 64 - t ∧ t ≤ 64 ∧ fr = ckF cap off t ∧ hp = ckH xs s (ringI S t) (sts s S t).l) 64 ?_ ?_
    · exact ⟨0, rfl, by omega, rfl, by rw [hr0]; rfl⟩
    · rintro q fr hp ⟨t, rfl, ht, rfl, rfl⟩ -
      refine AW.post ?_
      refine AW.pre tokT (fun _ => true) ?_
      (conv => whnf); (cases hlt : (decide ((↑t : Int) < 64) : Bool) <;> (try simp only [beq_iff_eq, beq_eq_false_iff_ne, ne_eq, decide_eq_true_eq, decide_eq_false_iff_not, bne_iff_ne, bne_eq_false_iff_eq, Bool.not_eq_true, Bool.not_eq_false, gt_iff_lt, ge_iff_le] at hlt) <;> (try (exfalso; omega)))
      case' false =>
        (conv => whnf)
        have : t = 64 := by omega
        subst this
        (refine Turned.of [0, 1, 2, 3, 4, 5] (ckF cap off 64) (ckH xs s (ringI S 64) (sts s S 64).l) (by rfl) (by rfl) (by rfl) (by (repeat' (first | exact True.intro | exact rfl | refine And.intro ?_ ?_ | (simp [AV.ren, AV.rens, AObj.ren, Ent.ren, AV.inn, AV.inns, AObj.inn, *]; done)))) (by (repeat' (first | exact True.intro | exact rfl | refine And.intro ?_ ?_ | (simp [AV.ren, AV.rens, AObj.ren, Ent.ren, AV.inn, AV.inns, AObj.inn, *]; done)))) ?_)
        exact ⟨rfl, rfl⟩
      (conv => whnf)
      have ht64 : t < 64 := by omega
      obtain ⟨e, he⟩ : ∃ e, sts s S t = e := ⟨_, rfl⟩
      rw [he]
      refine AW.cutT (fun fr hp => fr = ckF cap off t ∧ hp = ckH xs s (ringI S (t + 1)) (sts s S (t + 1)).l) ?_ ?_
      · refine AW.block ?_
        refine AW.cutT (fun fr hp => fr = ckF cap off t ∧ hp = ckH xs s (ringI S (t + 1)) e.l) ?_ ?_
        · refine AW.pre tokT (fun _ => true) ?_
          (conv => whnf)
          refine ev_sound tokT (keep := fun _ => true) ?_
          (conv => whnf); (cases h16 : (decide ((↑t : Int) < 16) : Bool) <;> (try simp only [beq_iff_eq, beq_eq_false_iff_ne, ne_eq, decide_eq_true_eq, decide_eq_false_iff_not, bne_iff_ne, bne_eq_false_iff_eq, Bool.not_eq_true, Bool.not_eq_false, gt_iff_lt, ge_iff_le] at h16) <;> (try (exfalso; omega)))
          case' true =>
            -- a word of the block
            have ht16 : t < 16 := by omega
            have hmod : t % 16 = t := Nat.mod_eq_of_lt ht16
            have hset0 : (ringI S t).set t (wI 0) = ringI S t := by
              apply List.ext_getElem?
              intro i
              rw [List.getElem?_set]
              split
              · rename_i e1
                subst e1
                rw [if_pos (by rw [ringI_length]; exact ht16)]
                simp only [ringI, List.getElem?_map, List.getElem?_range ht16, Option.map_some]
                rw [if_pos (Nat.le_refl t)]
              · rfl
            have hfin : (ringI S t).set t (wI (partW L t 4)) = ringI S (t + 1) := by
              rw [partW_all, ← hmg t ht16, hS]
              have := ringI_set S t
              rwa [hmod] at this
            have hrl := ringI_length S t
            (conv => whnf)
            (refine AW.turnL [0, 1, 2, 3, 4, 5] (ckF cap off t ++ [(9, .int .i64 0)]) (ckH xs s (ringI S t) e.l) (by rfl) (by rfl) (by rfl) (by (repeat' (first | exact True.intro | exact rfl | refine And.intro ?_ ?_ | (simp [AV.ren, AV.rens, AObj.ren, Ent.ren, AV.inn, AV.inns, AObj.inn, *]; done)))) (by (repeat' (first | exact True.intro | exact rfl | refine And.intro ?_ ?_ | (simp [AV.ren, AV.rens, AObj.ren, Ent.ren, AV.inn, AV.inns, AObj.inn, *]; done)))) ?_)
            refine AW.loop (fun q fr hp => ∃ i, q = 4 - i ∧ i ≤ 4 ∧ fr = ckF cap off t ++ [(9, .int .i64 i)] ∧ hp = ckH xs s ((ringI S t).set t (wI (partW L t i))) e.l) 4 ?_ ?_
            · exact ⟨0, rfl, by omega, rfl, by rw [show partW L t 0 = 0 from rfl, hset0]⟩
            · rintro q fr hp ⟨i, rfl, hi, rfl, rfl⟩ -
              refine AW.post ?_
              refine ev_sound tokT (keep := fun _ => true) ?_
              (conv => whnf); (cases hi4 : (decide ((↑i : Int) < 4) : Bool) <;> (try simp only [beq_iff_eq, beq_eq_false_iff_ne, ne_eq, decide_eq_true_eq, decide_eq_false_iff_not, bne_iff_ne, bne_eq_false_iff_eq, Bool.not_eq_true, Bool.not_eq_false, gt_iff_lt, ge_iff_le] at hi4) <;> (try (exfalso; omega)))
              case' false =>
                (conv => whnf)
                have : i = 4 := by omega
                subst this
                rw [hfin]
                (refine Turned.of [0, 1, 2, 3, 4, 5] (ckF cap off t) (ckH xs s (ringI S (t + 1)) e.l) (by rfl) (by rfl) (by rfl) (by (repeat' (first | exact True.intro | exact rfl | refine And.intro ?_ ?_ | (simp [AV.ren, AV.rens, AObj.ren, Ent.ren, AV.inn, AV.inns, AObj.inn, *]; done)))) (by (repeat' (first | exact True.intro | exact rfl | refine And.intro ?_ ?_ | (simp [AV.ren, AV.rens, AObj.ren, Ent.ren, AV.inn, AV.inns, AObj.inn, *]; done)))) ?_)
                exact ⟨rfl, rfl⟩
              have hi' : i < 4 := by omega
              have e1 : IntKind.i64.wrap (IntKind.i64.wrap (4 * (t : Int)) + (i : Int)) = ((4 * t + i : Nat) : Int) := by
                rw [IntWalk.i64_in (4 * _) (by omega), IntWalk.i64_in _ (by omega)]; omega
              have e1a : 0 ≤ IntKind.i64.wrap (IntKind.i64.wrap (4 * (t : Int)) + (i : Int)) := by rw [e1]; omega
              have e1b : IntKind.i64.wrap (IntKind.i64.wrap (4 * (t : Int)) + (i : Int)) < ((64 : Nat) : Int) := by rw [e1]; omega
              have e1c : off + (IntKind.i64.wrap (IntKind.i64.wrap (4 * (t : Int)) + (i : Int))).toNat = off + (4 * t + i) := by rw [e1, Int.toNat_natCast]
              have e1d : off + (IntKind.i64.wrap (IntKind.i64.wrap (4 * (t : Int)) + (i : Int))).toNat < xs.length := by rw [e1c]; omega
              have hg := hLg (4 * t + i) (by omega)
              (conv => whnf)
              refine AW.draw [(false, 0), (false, 1), (false, 2), (false, 3), (false, 4), (false, 5), (false, 6), (false, 7), (false, 8), (false, 9), (false, 10), (false, 11), (false, 12), (false, 13), (false, 14), (true, 15)] (keep := fun _ => true) mixed_ok' tokT (by kernel_rfl) (by kernel_rfl) ?_
              ((conv => whnf); (repeat (first | ((with_reducible (refine And.intro (show Go.Aw.againsK _ _ _ _ _ from ?_) ?_)); (focus (repeat' (first | ((with_reducible (show Go.Aw.againsK _ _ _ _ _)); (conv => whnf)) | (with_reducible (exact True.intro))))); (conv => whnf)) | ((refine And.intro (by assumption) ?_); (conv => whnf)) | ((refine Exists.intro _ (And.intro (by ((conv => whnf); (repeat ((refine And.intro (by first | exact rfl | assumption | omega) ?_); (conv => whnf))))) ?_)); (conv => whnf)))))
              rw [show (t : Int).toNat = t from Int.toNat_natCast _, e1c, hg]
              have hgs : ∀ v : Int, ((ringI S t).set t v).getD t 0 = v := fun v => by
                rw [List.getD_eq_getElem?_getD, List.getElem?_set_self (by omega)]; rfl
              rw [hgs, List.set_set, wrap_wI, show BitVec.ofInt 32 (L.getD (4 * t + i) 0) = bW (L.getD (4 * t + i) 0) from rfl, show (8 : Int) = ((8 : Nat) : Int) from rfl, w_shl _ _ (by omega), w_or]
              rw [IntWalk.i64_in _ (by omega)]
              (refine Turned.of [0, 1, 2, 3, 4, 5] (ckF cap off t ++ [(9, .int .i64 ((i + 1 : Nat) : Int))]) (ckH xs s ((ringI S t).set t (wI (partW L t (i + 1)))) e.l) (by rfl) (by rfl) (by rfl) (by (repeat' (first | exact True.intro | exact rfl | refine And.intro ?_ ?_ | (simp [AV.ren, AV.rens, AObj.ren, Ent.ren, AV.inn, AV.inns, AObj.inn, *]; done)))) (by (repeat' (first | exact True.intro | exact rfl | refine And.intro ?_ ?_ | (simp [AV.ren, AV.rens, AObj.ren, Ent.ren, AV.inn, AV.inns, AObj.inn, *]; done)))) ?_)
              exact ⟨4 - (i + 1), by omega, i + 1, rfl, by omega, rfl, rfl⟩
          -- a word of the schedule
          have ht16 : 16 ≤ t := by omega
          have x0 := and15 t (by omega)
          have x1 : andI .i64 (IntKind.i64.wrap ((t : Int) + 1)) 15 = (((t - 15) % 16 : Nat) : Int) := by
            rw [IntWalk.i64_in _ (by omega)]
            have := and15 (t + 1) (by omega)
            rw [Int.natCast_add] at this
            rw [show (t : Int) + 1 = (t : Int) + ((1 : Nat) : Int) from rfl, this]; omega
          have x9 : andI .i64 (IntKind.i64.wrap ((t : Int) + 9)) 15 = (((t - 7) % 16 : Nat) : Int) := by
            rw [IntWalk.i64_in _ (by omega)]
            have := and15 (t + 9) (by omega)
            rw [Int.natCast_add] at this
            rw [show (t : Int) + 9 = (t : Int) + ((9 : Nat) : Int) from rfl, this]; omega
          have x14 : andI .i64 (IntKind.i64.wrap ((t : Int) + 14)) 15 = (((t - 2) % 16 : Nat) : Int) := by
            rw [IntWalk.i64_in _ (by omega)]
            have := and15 (t + 14) (by omega)
            rw [Int.natCast_add] at this
            rw [show (t : Int) + 14 = (t : Int) + ((14 : Nat) : Int) from rfl, this]; omega
          have p0 : 0 ≤ andI .i64 (t : Int) 15 ∧ andI .i64 (t : Int) 15 < ((16 : Nat) : Int) ∧ (andI .i64 (t : Int) 15).toNat = t % 16 ∧ (andI .i64 (t : Int) 15).toNat < 16 := by rw [x0]; omega
          have p1 : 0 ≤ andI .i64 (IntKind.i64.wrap ((t : Int) + 1)) 15 ∧ andI .i64 (IntKind.i64.wrap ((t : Int) + 1)) 15 < ((16 : Nat) : Int) ∧ (andI .i64 (IntKind.i64.wrap ((t : Int) + 1)) 15).toNat = (t - 15) % 16 ∧ (andI .i64 (IntKind.i64.wrap ((t : Int) + 1)) 15).toNat < 16 := by rw [x1]; omega
          have p9 : 0 ≤ andI .i64 (IntKind.i64.wrap ((t : Int) + 9)) 15 ∧ andI .i64 (IntKind.i64.wrap ((t : Int) + 9)) 15 < ((16 : Nat) : Int) ∧ (andI .i64 (IntKind.i64.wrap ((t : Int) + 9)) 15).toNat = (t - 7) % 16 ∧ (andI .i64 (IntKind.i64.wrap ((t : Int) + 9)) 15).toNat < 16 := by rw [x9]; omega
          have p14 : 0 ≤ andI .i64 (IntKind.i64.wrap ((t : Int) + 14)) 15 ∧ andI .i64 (IntKind.i64.wrap ((t : Int) + 14)) 15 < ((16 : Nat) : Int) ∧ (andI .i64 (IntKind.i64.wrap ((t : Int) + 14)) 15).toNat = (t - 2) % 16 ∧ (andI .i64 (IntKind.i64.wrap ((t : Int) + 14)) 15).toNat < 16 := by rw [x14]; omega
          obtain ⟨p0a, p0b, p0c, p0d⟩ := p0
          obtain ⟨p1a, p1b, p1c, p1d⟩ := p1
          obtain ⟨p9a, p9b, p9c, p9d⟩ := p9
          obtain ⟨p14a, p14b, p14c, p14d⟩ := p14
          have b16 := ringI_back S (t := t) (q := 16) ht16 (by omega) (by omega)
          rw [show (t - 16) % 16 = t % 16 by omega] at b16
          have b15 := ringI_back S (t := t) (q := 15) ht16 (by omega) (by omega)
          have b7 := ringI_back S (t := t) (q := 7) ht16 (by omega) (by omega)
          have b2 := ringI_back S (t := t) (q := 2) ht16 (by omega) (by omega)
          have hset := ringI_set S t
          have hnext : S.getD t 0 = nextW S t := by
            have := sch_next m hml t ht16 ht64
            rwa [hS] at this
          (conv => whnf)
          refine AW.draw [(false, 0), (false, 1), (false, 2), (false, 3), (false, 4), (false, 5), (false, 6), (false, 7), (false, 8), (false, 9), (false, 10), (false, 13), (false, 14), (false, 15), (false, 16), (false, 17), (false, 19), (false, 20), (false, 21), (false, 22), (false, 23), (true, 11), (false, 12), (false, 18), (true, 24), (false, 25), (false, 26), (true, 27)] (keep := fun _ => true) mixed_ok' tokT (by kernel_rfl) (by kernel_rfl) ?_
          ((conv => whnf); (repeat (((refine Exists.intro _ (And.intro (by ((conv => whnf); (repeat ((refine And.intro (by first | exact rfl | assumption) ?_); (conv => whnf))))) ?_)); (conv => whnf)))))
          refine AC.frame (drawn_ok (S.getD (t - 15) 0) 7 18 3 (by omega) (by omega) (by omega)) [] (by (repeat' (exact True.intro))) (by rfl) (by (repeat' (first | exact True.intro | refine And.intro ?_ ?_))) (by rw [p1c, b15]; rfl) ?_
          rintro r0 hp0 ⟨rfl, rfl⟩
          ((conv => whnf); (repeat (first | ((with_reducible (refine And.intro (show Go.Aw.againsK _ _ _ _ _ from ?_) ?_)); (focus (repeat' (first | ((with_reducible (show Go.Aw.againsK _ _ _ _ _)); (conv => whnf)) | ((with_reducible (show Go.Aw.againK _ _ _ _ _)); (conv => whnf)) | (with_reducible (exact True.intro)) | (with_reducible (refine And.intro ?_ ?_)) | exact rfl | assumption))); (conv => whnf)) | ((refine And.intro (by exact rfl) ?_); (conv => whnf)) | ((refine Exists.intro _ (And.intro (by ((conv => whnf); (repeat ((refine And.intro (by exact rfl) ?_); (conv => whnf))))) ?_)); (conv => whnf)))))
          refine AC.frame (drawn_ok (S.getD (t - 2) 0) 17 19 10 (by omega) (by omega) (by omega)) [] (by (repeat' (exact True.intro))) (by rfl) (by (repeat' (first | exact True.intro | refine And.intro ?_ ?_))) (by rw [p14c, b2]; rfl) ?_
          rintro r0 hp0 ⟨rfl, rfl⟩
          ((conv => whnf); (repeat (first | ((with_reducible (refine And.intro (show Go.Aw.againsK _ _ _ _ _ from ?_) ?_)); (focus (repeat' (first | ((with_reducible (show Go.Aw.againsK _ _ _ _ _)); (conv => whnf)) | ((with_reducible (show Go.Aw.againK _ _ _ _ _)); (conv => whnf)) | (with_reducible (exact True.intro)) | (with_reducible (refine And.intro ?_ ?_)) | exact rfl | assumption))); (conv => whnf)) | ((refine And.intro (by first | exact rfl | assumption) ?_); (conv => whnf)) | ((refine Exists.intro _ (And.intro (by ((conv => whnf); (repeat ((refine And.intro (by first | exact rfl | assumption) ?_); (conv => whnf))))) ?_)); (conv => whnf)))))
          rw [p0c, b16, p9c, b7, w_add, w_add, w_add]
          rw [show S.getD (t - 16) 0 + threeW (S.getD (t - 15) 0) 7 18 3 true + S.getD (t - 7) 0 + threeW (S.getD (t - 2) 0) 17 19 10 true = nextW S t from rfl, ← hnext, hset]
          (refine Turned.of [0, 1, 2, 3, 4, 5] (ckF cap off t) (ckH xs s (ringI S (t + 1)) e.l) (by rfl) (by rfl) (by rfl) (by (repeat' (first | exact True.intro | exact rfl | refine And.intro ?_ ?_ | (simp [AV.ren, AV.rens, AObj.ren, Ent.ren, AV.inn, AV.inns, AObj.inn, *]; done)))) (by (repeat' (first | exact True.intro | exact rfl | refine And.intro ?_ ?_ | (simp [AV.ren, AV.rens, AObj.ren, Ent.ren, AV.inn, AV.inns, AObj.inn, *]; done)))) ?_)
          exact ⟨rfl, rfl⟩
        · rintro fr hp ⟨rfl, rfl⟩
          have hel : e.l.length = 8 := rfl
          refine AW.pre tokT (fun _ => true) ?_; ((conv => whnf); (repeat (((refine And.intro (by omega) ?_); (conv => whnf)))))
          rw [show e.l.getD (Int.toNat 6) 0 = wI e.g from rfl, show e.l.getD (Int.toNat 4) 0 = wI e.e from rfl, show e.l.getD (Int.toNat 5) 0 = wI e.f from rfl, w_xor, w_and, w_xor]
          refine AW.pre tokT (fun _ => true) ?_; ((conv => whnf); (repeat (((refine And.intro (by omega) ?_); (conv => whnf)))))
          rw [show e.l.getD (Int.toNat 0) 0 = wI e.a from rfl, show e.l.getD (Int.toNat 1) 0 = wI e.b from rfl, show e.l.getD (Int.toNat 2) 0 = wI e.c from rfl, w_and, w_or, w_and, w_or]
          (refine AW.turnL [0, 1, 2, 3, 4, 5] (ckF cap off t ++ [(10, .int .u32 (wI (chW e.e e.f e.g))), (11, .int .u32 (wI (mjW e.a e.b e.c)))]) (ckH xs s (ringI S (t + 1)) e.l) (by rfl) (by rfl) (by rfl) (by (repeat' (first | exact True.intro | exact rfl | refine And.intro ?_ ?_ | (simp [AV.ren, AV.rens, AObj.ren, Ent.ren, AV.inn, AV.inns, AObj.inn, *]; done)))) (by (repeat' (first | exact True.intro | exact rfl | refine And.intro ?_ ?_ | (simp [AV.ren, AV.rens, AObj.ren, Ent.ren, AV.inn, AV.inns, AObj.inn, *]; done)))) ?_)
          have x0 := and15 t (by omega)
          have p0 : 0 ≤ andI .i64 (t : Int) 15 ∧ andI .i64 (t : Int) 15 < ((16 : Nat) : Int) ∧ (andI .i64 (t : Int) 15).toNat = t % 16 ∧ (andI .i64 (t : Int) 15).toNat < 16 := by rw [x0]; omega
          obtain ⟨p0a, p0b, p0c, p0d⟩ := p0
          have hrn := ringI_now S t
          have hk := kT_get t
          have hkl : kT.length = 64 := rfl
          refine AW.seq (AW.draw [(false, 0), (false, 1), (false, 2), (false, 3), (false, 6), (false, 8), (false, 9), (false, 10), (false, 11), (false, 13), (false, 14), (false, 15), (false, 16), (true, 4), (false, 5), (false, 7), (false, 12), (false, 17), (false, 18)] (keep := fun _ => true) mixed_ok' tokT (by kernel_rfl) (by kernel_rfl) ?_)
          ((conv => whnf); (repeat (((refine Exists.intro _ (And.intro (by ((conv => whnf); (repeat ((refine And.intro (by first | exact rfl | assumption | omega | (simp; omega)) ?_); (conv => whnf))))) ?_)); (conv => whnf)))))
          refine AC.frame (mixed3_ok e.e 6 11 25 (by omega) (by omega) (by omega)) [] (by (repeat' (exact True.intro))) (by rfl) (by (repeat' (first | exact True.intro | refine And.intro ?_ ?_))) (by rfl) ?_
          rintro r0 hp0 ⟨rfl, rfl⟩
          ((conv => whnf); (repeat (first | ((with_reducible (refine And.intro (show Go.Aw.againsK _ _ _ _ _ from ?_) ?_)); (focus (repeat' (first | ((with_reducible (show Go.Aw.againsK _ _ _ _ _)); (conv => whnf)) | ((with_reducible (show Go.Aw.againK _ _ _ _ _)); (conv => whnf)) | (with_reducible (exact True.intro)) | (with_reducible (refine And.intro ?_ ?_)) | exact rfl | assumption | omega | (simp; omega)))); (conv => whnf)) | ((refine And.intro (by exact rfl) ?_); (conv => whnf)) | ((refine Exists.intro _ (And.intro (by ((conv => whnf); (repeat ((refine And.intro (by exact rfl) ?_); (conv => whnf))))) ?_)); (conv => whnf)))))
          rw [p0c, hrn, show 0 + (t : Int).toNat = t by simp, hk, show e.l.getD (Int.toNat 7) 0 = wI e.h from rfl, w_add, w_add, w_add, w_add]
          obtain ⟨U, hU⟩ : ∃ U, e.h + threeW e.e 6 11 25 false + chW e.e e.f e.g + kW t + S.getD t 0 = U := ⟨_, rfl⟩
          rw [hU]
          (refine AW.turnL [0, 1, 2, 3, 4, 5] (ckF cap off t ++ [(11, .int .u32 (wI (mjW e.a e.b e.c))), (12, .int .u32 (wI U))]) (ckH xs s (ringI S (t + 1)) e.l) (by rfl) (by rfl) (by rfl) (by (repeat' (first | exact True.intro | exact rfl | refine And.intro ?_ ?_ | (simp [AV.ren, AV.rens, AObj.ren, Ent.ren, AV.inn, AV.inns, AObj.inn, *]; done)))) (by (repeat' (first | exact True.intro | exact rfl | refine And.intro ?_ ?_ | (simp [AV.ren, AV.rens, AObj.ren, Ent.ren, AV.inn, AV.inns, AObj.inn, *]; done)))) ?_)
          refine AW.pre tokT (fun _ => true) ?_; ((conv => whnf); (repeat (((refine And.intro (by omega) ?_); (conv => whnf)))))
          rw [show e.l.getD (Int.toNat 0) 0 = wI e.a from rfl]
          refine AC.frame (mixed3_ok e.a 2 13 22 (by omega) (by omega) (by omega)) [] (by (repeat' (exact True.intro))) (by rfl) (by (repeat' (first | exact True.intro | refine And.intro ?_ ?_))) (by rfl) ?_
          rintro r0 hp0 ⟨rfl, rfl⟩
          (conv => whnf)
          rw [w_add]
          obtain ⟨D, hD⟩ : ∃ D, threeW e.a 2 13 22 false + mjW e.a e.b e.c = D := ⟨_, rfl⟩
          rw [hD]
          have hst : sts s S (t + 1) = ⟨U + D, e.a, e.b, e.c, e.d + U, e.e, e.f, e.g⟩ := by
            simp only [sts, he, rnd]
            rw [← hU, ← hD]; rfl
          (refine AW.turnL [0, 1, 2, 3, 4, 5] (ckF cap off t ++ [(12, .int .u32 (wI U)), (13, .int .u32 (wI D))]) (ckH xs s (ringI S (t + 1)) e.l) (by rfl) (by rfl) (by rfl) (by (repeat' (first | exact True.intro | exact rfl | refine And.intro ?_ ?_ | (simp [AV.ren, AV.rens, AObj.ren, Ent.ren, AV.inn, AV.inns, AObj.inn, *]; done)))) (by (repeat' (first | exact True.intro | exact rfl | refine And.intro ?_ ?_ | (simp [AV.ren, AV.rens, AObj.ren, Ent.ren, AV.inn, AV.inns, AObj.inn, *]; done)))) ?_)
          refine AW.cutT (fun fr hp => fr = ckF cap off t ++ [(12, .int .u32 (wI U)), (13, .int .u32 (wI D))] ∧ hp = ckH xs s (ringI S (t + 1)) (shI e.l 0)) ?_ ?_
          · refine AW.pre tokT (fun _ => true) ?_; (conv => whnf)
            refine AW.block ?_
            (refine AW.turnL [0, 1, 2, 3, 4, 5] (ckF cap off t ++ [(12, .int .u32 (wI U)), (13, .int .u32 (wI D)), (14, .int .i64 7)]) (ckH xs s (ringI S (t + 1)) e.l) (by rfl) (by rfl) (by rfl) (by (repeat' (first | exact True.intro | exact rfl | refine And.intro ?_ ?_ | (simp [AV.ren, AV.rens, AObj.ren, Ent.ren, AV.inn, AV.inns, AObj.inn, *]; done)))) (by (repeat' (first | exact True.intro | exact rfl | refine And.intro ?_ ?_ | (simp [AV.ren, AV.rens, AObj.ren, Ent.ren, AV.inn, AV.inns, AObj.inn, *]; done)))) ?_)
            refine AW.loop (fun q fr hp => ∃ i, q = i ∧ i ≤ 7 ∧ fr = ckF cap off t ++ [(12, .int .u32 (wI U)), (13, .int .u32 (wI D)), (14, .int .i64 (i : Int))] ∧ hp = ckH xs s (ringI S (t + 1)) (shI e.l i)) 7 ?_ ?_
            · exact ⟨7, rfl, by omega, rfl, rfl⟩
            · rintro q fr hp ⟨i, rfl, hi, rfl, rfl⟩ -
              refine AW.post ?_
              refine ev_sound tokT (keep := fun _ => true) ?_
              (conv => whnf); (cases hi0 : (decide ((↑q : Int) > 0) : Bool) <;> (try simp only [beq_iff_eq, beq_eq_false_iff_ne, ne_eq, decide_eq_true_eq, decide_eq_false_iff_not, bne_iff_ne, bne_eq_false_iff_eq, Bool.not_eq_true, Bool.not_eq_false, gt_iff_lt, ge_iff_le] at hi0) <;> (try (exfalso; omega)))
              case' false =>
                (conv => whnf)
                have : q = 0 := by omega
                subst this
                (refine Turned.of [0, 1, 2, 3, 4, 5] (ckF cap off t ++ [(12, .int .u32 (wI U)), (13, .int .u32 (wI D))]) (ckH xs s (ringI S (t + 1)) (shI e.l 0)) (by rfl) (by rfl) (by rfl) (by (repeat' (first | exact True.intro | exact rfl | refine And.intro ?_ ?_ | (simp [AV.ren, AV.rens, AObj.ren, Ent.ren, AV.inn, AV.inns, AObj.inn, *]; done)))) (by (repeat' (first | exact True.intro | exact rfl | refine And.intro ?_ ?_ | (simp [AV.ren, AV.rens, AObj.ren, Ent.ren, AV.inn, AV.inns, AObj.inn, *]; done)))) ?_)
                exact ⟨rfl, rfl⟩
              have hsh := shI_step e (i := q) (by omega) hi
              have e1 : IntKind.i64.wrap ((q : Int) - 1) = ((q - 1 : Nat) : Int) := by rw [IntWalk.i64_in _ (by omega)]; omega
              have e1a : 0 ≤ IntKind.i64.wrap ((q : Int) - 1) := by rw [e1]; omega
              have e1b : IntKind.i64.wrap ((q : Int) - 1) < ((8 : Nat) : Int) := by rw [e1]; omega
              have e1c : (IntKind.i64.wrap ((q : Int) - 1)).toNat = q - 1 := by rw [e1, Int.toNat_natCast]
              have e1d : (IntKind.i64.wrap ((q : Int) - 1)).toNat < 8 := by omega
              ((conv => whnf); (repeat (((refine And.intro (by first | assumption | omega) ?_); (conv => whnf)))))
              rw [e1c, show (q : Int).toNat = q from Int.toNat_natCast _, hsh, e1]
              (refine Turned.of [0, 1, 2, 3, 4, 5] (ckF cap off t ++ [(12, .int .u32 (wI U)), (13, .int .u32 (wI D)), (14, .int .i64 ((q - 1 : Nat) : Int))]) (ckH xs s (ringI S (t + 1)) (shI e.l (q - 1))) (by rfl) (by rfl) (by rfl) (by (repeat' (first | exact True.intro | exact rfl | refine And.intro ?_ ?_ | (simp [AV.ren, AV.rens, AObj.ren, Ent.ren, AV.inn, AV.inns, AObj.inn, *]; done)))) (by (repeat' (first | exact True.intro | exact rfl | refine And.intro ?_ ?_ | (simp [AV.ren, AV.rens, AObj.ren, Ent.ren, AV.inn, AV.inns, AObj.inn, *]; done)))) ?_)
              exact ⟨q - 1, by omega, q - 1, rfl, by omega, rfl, rfl⟩
          · rintro fr hp ⟨rfl, rfl⟩
            refine ev_sound tokT (keep := fun _ => true) ?_
            ((conv => whnf); (repeat (((refine And.intro (by omega) ?_); (conv => whnf)))))
            rw [show (shI e.l 0).getD (Int.toNat 4) 0 = wI e.d from rfl, w_add, w_add]
            (refine Turned.of [0, 1, 2, 3, 4, 5] (ckF cap off t) (ckH xs s (ringI S (t + 1)) (((shI e.l 0).set 4 (wI (e.d + U))).set 0 (wI (U + D)))) (by rfl) (by rfl) (by rfl) (by (repeat' (first | exact True.intro | exact rfl | refine And.intro ?_ ?_ | (simp [AV.ren, AV.rens, AObj.ren, Ent.ren, AV.inn, AV.inns, AObj.inn, *]; done)))) (by (repeat' (first | exact True.intro | exact rfl | refine And.intro ?_ ?_ | (simp [AV.ren, AV.rens, AObj.ren, Ent.ren, AV.inn, AV.inns, AObj.inn, *]; done)))) ?_)
            refine ⟨rfl, ?_⟩
            rw [hst]; rfl
      · rintro fr hp ⟨rfl, rfl⟩
        refine ev_sound tokT (keep := fun _ => true) ?_
        (conv => whnf)
        rw [IntWalk.i64_in _ (by omega)]
        (refine Turned.of [0, 1, 2, 3, 4, 5] (ckF cap off ((t + 1 : Nat) : Int)) (ckH xs s (ringI S (t + 1)) (sts s S (t + 1)).l) (by rfl) (by rfl) (by rfl) (by (repeat' (first | exact True.intro | exact rfl | refine And.intro ?_ ?_ | (simp [AV.ren, AV.rens, AObj.ren, Ent.ren, AV.inn, AV.inns, AObj.inn, *]; done)))) (by (repeat' (first | exact True.intro | exact rfl | refine And.intro ?_ ?_ | (simp [AV.ren, AV.rens, AObj.ren, Ent.ren, AV.inn, AV.inns, AObj.inn, *]; done)))) ?_)
        exact ⟨64 - (t + 1), by omega, t + 1, rfl, by omega, rfl, rfl⟩
  · rintro fr hp ⟨rfl, rfl⟩
    obtain ⟨e, he⟩ : ∃ e, sts s S 64 = e := ⟨_, rfl⟩
    rw [he]
    refine AW.cutT (fun fr hp => fr = [(2, .ptr 1 0 0 0), (4, .ptr 2 0 0 0)] ∧ hp = [⟨1, true, none, .ints .u8 xs⟩, ⟨8, false, none, .var [.ints .u32 8 (s.add e).l]⟩, ⟨8, false, none, .var [.ints .u32 8 (List.replicate 8 0)]⟩]) ?_ ?_
    · refine AW.pre tokT (fun _ => true) ?_; (conv => whnf)
      refine AW.block ?_
      (refine AW.turnL [0, 1, 2, 5] [(2, .ptr 1 0 0 0), (4, .ptr 2 0 0 0), (7, .ptr 3 0 0 0), (15, .int .i64 0)] [⟨1, true, none, .ints .u8 xs⟩, ⟨8, false, none, .var [.ints .u32 8 s.l]⟩, ⟨8, false, none, .var [.ints .u32 8 (List.replicate 8 0)]⟩, ⟨8, false, none, .var [.ints .u32 8 e.l]⟩] (by rfl) (by rfl) (by rfl) (by (repeat' (first | exact True.intro | exact rfl | refine And.intro ?_ ?_ | (simp [AV.ren, AV.rens, AObj.ren, Ent.ren, AV.inn, AV.inns, AObj.inn, *]; done)))) (by (repeat' (first | exact True.intro | exact rfl | refine And.intro ?_ ?_ | (simp [AV.ren, AV.rens, AObj.ren, Ent.ren, AV.inn, AV.inns, AObj.inn, *]; done)))) ?_)
      refine AW.loop (fun q fr hp => ∃ (j : Nat), q = 8 - j ∧ j ≤ 8 ∧ fr = [(2, .ptr 1 0 0 0), (4, .ptr 2 0 0 0), (7, .ptr 3 0 0 0), (15, .int .i64 j)] ∧
        hp = [⟨1, true, none, .ints .u8 xs⟩, ⟨8, false, none, .var [.ints .u32 8 (hsI s e j)]⟩, ⟨8, false, none, .var [.ints .u32 8 (List.replicate 8 0)]⟩, ⟨8, false, none, .var [.ints .u32 8 e.l]⟩]) 8 ?_ ?_
      · exact ⟨0, rfl, by omega, rfl, rfl⟩
      · rintro q fr hp ⟨j, rfl, hj, rfl, rfl⟩ -
        refine AW.post ?_
        refine ev_sound tokT (keep := fun _ => true) ?_
        (conv => whnf); (cases hlt : (decide ((↑j : Int) < 8) : Bool) <;> (try simp only [beq_iff_eq, beq_eq_false_iff_ne, ne_eq, decide_eq_true_eq, decide_eq_false_iff_not, bne_iff_ne, bne_eq_false_iff_eq, Bool.not_eq_true, Bool.not_eq_false, gt_iff_lt, ge_iff_le] at hlt) <;> (try (exfalso; omega)))
        case' false =>
          (conv => whnf)
          have : j = 8 := by omega
          subst this
          (refine Turned.of [0, 1, 2] [(2, .ptr 1 0 0 0), (4, .ptr 2 0 0 0)] [⟨1, true, none, .ints .u8 xs⟩, ⟨8, false, none, .var [.ints .u32 8 (s.add e).l]⟩, ⟨8, false, none, .var [.ints .u32 8 (List.replicate 8 0)]⟩] (by rfl) (by rfl) (by rfl) (by (repeat' (first | exact True.intro | exact rfl | refine And.intro ?_ ?_ | (simp [AV.ren, AV.rens, AObj.ren, Ent.ren, AV.inn, AV.inns, AObj.inn, *]; done)))) (by (repeat' (first | exact True.intro | exact rfl | refine And.intro ?_ ?_ | (simp [AV.ren, AV.rens, AObj.ren, Ent.ren, AV.inn, AV.inns, AObj.inn, *]; done)))) ?_)
          exact ⟨rfl, rfl⟩
        have hj8 : j < 8 := by omega
        have hget := hsI_get s e hj8
        have hset := hsI_set s e hj8
        (conv => whnf)
        refine AW.draw [(false, 0), (false, 1), (false, 2), (false, 3), (false, 4), (false, 5), (false, 6), (false, 7), (false, 8), (true, 9)] (keep := fun _ => true) mixed_ok' tokT (by kernel_rfl) (by kernel_rfl) ?_
        ((conv => whnf); (repeat (first | ((with_reducible (refine And.intro (show Go.Aw.againsK _ _ _ _ _ from ?_) ?_)); (focus (repeat' (first | ((with_reducible (show Go.Aw.againsK _ _ _ _ _)); (conv => whnf)) | (with_reducible (exact True.intro))))); (conv => whnf)) | ((refine And.intro (by assumption) ?_); (conv => whnf)) | ((refine Exists.intro _ (And.intro (by ((conv => whnf); (repeat ((refine And.intro (by first | exact rfl | assumption | omega) ?_); (conv => whnf))))) ?_)); (conv => whnf)))))
        rw [show (j : Int).toNat = j from Int.toNat_natCast _, hget, hset]
        rw [IntWalk.i64_in _ (by omega)]
        (refine Turned.of [0, 1, 2, 3] [(2, .ptr 1 0 0 0), (4, .ptr 2 0 0 0), (7, .ptr 3 0 0 0), (15, .int .i64 ((j + 1 : Nat) : Int))] [⟨1, true, none, .ints .u8 xs⟩, ⟨8, false, none, .var [.ints .u32 8 (hsI s e (j + 1))]⟩, ⟨8, false, none, .var [.ints .u32 8 (List.replicate 8 0)]⟩, ⟨8, false, none, .var [.ints .u32 8 e.l]⟩] (by rfl) (by rfl) (by rfl) (by (repeat' (first | exact True.intro | exact rfl | refine And.intro ?_ ?_ | (simp [AV.ren, AV.rens, AObj.ren, Ent.ren, AV.inn, AV.inns, AObj.inn, *]; done)))) (by (repeat' (first | exact True.intro | exact rfl | refine And.intro ?_ ?_ | (simp [AV.ren, AV.rens, AObj.ren, Ent.ren, AV.inn, AV.inns, AObj.inn, *]; done)))) ?_)
        exact ⟨8 - (j + 1), by omega, j + 1, rfl, by omega, rfl, rfl⟩
    · rintro fr hp ⟨rfl, rfl⟩
      refine ev_sound tokT (keep := fun _ => true) ?_
      (conv => whnf)
      (refine Left.of [0] (.agg [.ints .u32 8 (s.add e).l]) [⟨1, true, none, .ints .u8 xs⟩] (by rfl) (by rfl) (by rfl) (by (repeat' (first | exact True.intro | exact rfl | refine And.intro ?_ ?_))) (by rfl) (by (repeat' (first | exact True.intro | exact rfl | refine And.intro ?_ ?_))) ?_)
      refine ⟨?_, rfl⟩
      unfold compr
      rw [hS, he]
end Go.Aw
end

section
/-
  AwSr3: the plain sum. Own work.
-/
set_option linter.unusedVariables false
set_option linter.unusedSimpArgs false
set_option maxRecDepth 20000
open Go.Proofs
namespace Go.Aw
attribute [local irreducible] andI orI xorI shlI shrI

theorem takesB_short : ∀ (l : List Int) (s : St) (p : List Int), p.length + l.length < 64 → takesB (s, p) l = (s, p ++ l)
  | [], s, p, _ => by simp [takesB]
  | c :: l, s, p, h => by
    simp only [List.length_cons] at h
    have hne : ¬ p.length = 63 := by omega
    rw [takesB_cons, show takeB (s, p) c = (s, p ++ [c]) by simp only [takeB, if_neg hne], takesB_short l s (p ++ [c]) (by simp; omega)]
    simp
theorem takesB_block (s : St) (l : List Int) (h : l.length = 64) : takesB (s, []) l = (compr s (wordsOf l), []) := by
  have hl : l = l.take 63 ++ [l.getD 63 0] := by
    have := takeSnoc l 63 (by omega)
    rwa [show 63 + 1 = l.length by omega, List.take_length] at this
  rw [hl, takesB_append, takesB_short _ s [] (by simp; omega), List.nil_append, takesB_cons]
  have h63 : (l.take 63).length = 63 := by simp; omega
  simp only [takeB, h63, if_true]
  rfl
/-- the state behind k blocks -/
def stAt (B : List Int) (k : Nat) : St := (takesB (ivS, []) (B.take (64 * k))).1
theorem stAt_zero (B : List Int) : stAt B 0 = ivS := rfl
theorem stAt_eq (B : List Int) : ∀ k, 64 * k ≤ B.length → takesB (ivS, []) (B.take (64 * k)) = (stAt B k, [])
  | 0, _ => rfl
  | k + 1, h => by
    have ih := stAt_eq B k (by omega)
    have hs : B.take (64 * (k + 1)) = B.take (64 * k) ++ (B.drop (64 * k)).take 64 := by
      rw [show 64 * (k + 1) = 64 * k + 64 by omega, List.take_add]
    unfold stAt
    rw [hs, takesB_append, ih, takesB_block _ _ (by simp; omega)]
theorem stAt_succ (B : List Int) (k : Nat) (h : 64 * (k + 1) ≤ B.length) : stAt B (k + 1) = compr (stAt B k) (wordsOf ((B.drop (64 * k)).take 64)) := by
  have ih := stAt_eq B k (by omega)
  have hs : B.take (64 * (k + 1)) = B.take (64 * k) ++ (B.drop (64 * k)).take 64 := by
    rw [show 64 * (k + 1) = 64 * k + 64 by omega, List.take_add]
  conv => lhs; unfold stAt
  rw [hs, takesB_append, ih, takesB_block _ _ (by simp; omega)]
theorem stAt_all (B : List Int) (k : Nat) (h : 64 * k = B.length) : (takesB (ivS, []) B).1 = stAt B k := by
  unfold stAt; rw [h, List.take_length]

/-- the number of bits, its last j bytes laid down -/
def bitL (N : Int) (j : Nat) : List Int := List.replicate (8 - j) 0 ++ (be8 N).drop (8 - j)
theorem bitL_length (N : Int) {j : Nat} (h : j ≤ 8) : (bitL N j).length = 8 := by
  simp only [bitL, be8, List.length_append, List.length_replicate, List.length_drop, List.length_cons, List.length_nil]; omega
theorem bitL_set (N : Int) {j : Nat} (h : j < 8) : (bitL N j).set (7 - j) (N / 256 ^ j % 256) = bitL N (j + 1) := by
  have : j = 0 ∨ j = 1 ∨ j = 2 ∨ j = 3 ∨ j = 4 ∨ j = 5 ∨ j = 6 ∨ j = 7 := by omega
  rcases this with rfl | rfl | rfl | rfl | rfl | rfl | rfl | rfl <;> simp [bitL, be8, List.replicate]
theorem bitL_done (N : Int) {j : Nat} (h : j ≤ 8) (h0 : 0 ≤ N) (h1 : N < 18446744073709551616) (hz : N / 256 ^ j = 0) : bitL N j = be8 N := by
  have : j = 0 ∨ j = 1 ∨ j = 2 ∨ j = 3 ∨ j = 4 ∨ j = 5 ∨ j = 6 ∨ j = 7 ∨ j = 8 := by omega
  rcases this with rfl | rfl | rfl | rfl | rfl | rfl | rfl | rfl | rfl
  all_goals first | (simp [bitL, be8, List.replicate] at hz ⊢; omega) | (simp [bitL, be8, List.replicate] at hz ⊢; done) | (simp [bitL, be8, List.replicate]; done)

set_option maxHeartbeats 1000000 in
theorem refsum_ok (xs : List Int) (off len : Nat) (cap : Option Nat) (hol : off + len ≤ xs.length) (hsz : len ≤ 4294967296) (hcap : ∀ c, cap = some c → len ≤ c) :
    AC Try.prog 31 [.sl 0 off len cap] [⟨1, true, none, .ints .u8 xs⟩]
      (fun r hp' => r = .agg [.ints .u8 32 (shaL ((xs.drop off).take len))] ∧ hp' = [⟨1, true, none, .ints .u8 xs⟩]) := by
  refine AC.left (AC.body tokT Try.func31 rfl rfl rfl (by decide) (by rfl) ?_)
  obtain ⟨L, hL⟩ : ∃ L, (xs.drop off).take len = L := ⟨_, rfl⟩
  have hLl : L.length = len := by rw [← hL]; simp; omega
  rw [hL]
  obtain ⟨B, hB⟩ : ∃ B, L ++ padL len = B := ⟨_, rfl⟩
  have hpl : (padL len).length = 9 + (119 - len % 64) % 64 := by simp [padL, be8]; omega
  have hBl : B.length = len + 9 + (119 - len % 64) % 64 := by rw [← hB, List.length_append, hLl, hpl]; omega
  have hBd : ∀ k, k ≤ len → B.drop k = L.drop k ++ padL len := fun k hk => by rw [← hB, List.drop_append_of_le_length (by omega)]
  have hblk : ∀ i, 64 * (i + 1) ≤ len → (xs.drop (off + 64 * i)).take 64 = (B.drop (64 * i)).take 64 := fun i hi => by
    rw [hBd _ (by omega), List.take_append_of_le_length (by simp; omega), ← hL, List.drop_take, List.take_take, List.drop_drop]
    congr 1; omega
  refine AW.pre tokT (fun _ => true) ?_; (conv => whnf)
  refine AW.pre tokT (fun _ => true) ?_; (conv => whnf)
  refine AW.pre tokT (fun _ => true) ?_; (conv => whnf)
  refine AW.cutT (fun fr hp => ∃ cap', (∀ c, cap' = some c → len % 64 ≤ c) ∧ fr = [(0, .sl 0 off len cap), (2, .ptr 1 0 0 0), (3, .ptr 2 0 0 0), (4, .sl 0 (off + 64 * (len / 64)) (len % 64) cap')] ∧
    hp = [⟨1, true, none, .ints .u8 xs⟩, ⟨32, false, none, .var [.ints .u8 32 (List.replicate 32 0)]⟩, ⟨8, false, none, .var [.ints .u32 8 (stAt B (len / 64)).l]⟩]) ?_ ?_
  · refine AW.block ?_
    (refine AW.turnL [0, 1, 2] [(0, .sl 0 off len cap), (2, .ptr 1 0 0 0), (3, .ptr 2 0 0 0), (4, .sl 0 off len cap)] [⟨1, true, none, .ints .u8 xs⟩, ⟨32, false, none, .var [.ints .u8 32 (List.replicate 32 0)]⟩, ⟨8, false, none, .var [.ints .u32 8 ivS.l]⟩] (by rfl) (by rfl) (by rfl) (by (repeat' (first | exact True.intro | exact rfl | refine And.intro ?_ ?_ | (simp [AV.ren, AV.rens, AObj.ren, Ent.ren, AV.inn, AV.inns, AObj.inn, *]; done)))) (by (repeat' (first | exact True.intro | exact rfl | refine And.intro ?_ ?_ | (simp [AV.ren, AV.rens, AObj.ren, Ent.ren, AV.inn, AV.inns, AObj.inn, *]; done)))) ?_)
    refine AW.loop (fun q fr hp => ∃ i cap', q = len - i ∧ 64 * i ≤ len ∧ (∀ c, cap' = some c → len - 64 * i ≤ c) ∧ fr = [(0, .sl 0 off len cap), (2, .ptr 1 0 0 0), (3, .ptr 2 0 0 0), (4, .sl 0 (off + 64 * i) (len - 64 * i) cap')] ∧
      hp = [⟨1, true, none, .ints .u8 xs⟩, ⟨32, false, none, .var [.ints .u8 32 (List.replicate 32 0)]⟩, ⟨8, false, none, .var [.ints .u32 8 (stAt B i).l]⟩]) len ?_ ?_
    · exact ⟨0, cap, rfl, by omega, hcap, rfl, rfl⟩
    · rintro q fr hp ⟨i, cap', rfl, hi, hc', rfl, rfl⟩ -
      refine AW.post ?_
      refine ev_sound tokT (keep := fun _ => true) ?_
      (conv => whnf); (cases h64 : (decide ((↑(len - 64 * i) : Int) ≥ 64) : Bool) <;> (try simp only [beq_iff_eq, beq_eq_false_iff_ne, ne_eq, decide_eq_true_eq, decide_eq_false_iff_not, bne_iff_ne, bne_eq_false_iff_eq, Bool.not_eq_true, Bool.not_eq_false, gt_iff_lt, ge_iff_le] at h64) <;> (try (exfalso; omega)))
      case' false =>
        (conv => whnf)
        have e1 : len / 64 = i := by omega
        have e2 : len % 64 = len - 64 * i := by omega
        (refine Turned.of [0, 1, 2] [(0, .sl 0 off len cap), (2, .ptr 1 0 0 0), (3, .ptr 2 0 0 0), (4, .sl 0 (off + 64 * i) (len - 64 * i) cap')] [⟨1, true, none, .ints .u8 xs⟩, ⟨32, false, none, .var [.ints .u8 32 (List.replicate 32 0)]⟩, ⟨8, false, none, .var [.ints .u32 8 (stAt B i).l]⟩] (by rfl) (by rfl) (by rfl) (by (repeat' (first | exact True.intro | exact rfl | refine And.intro ?_ ?_ | (simp [AV.ren, AV.rens, AObj.ren, Ent.ren, AV.inn, AV.inns, AObj.inn, *]; done)))) (by (repeat' (first | exact True.intro | exact rfl | refine And.intro ?_ ?_ | (simp [AV.ren, AV.rens, AObj.ren, Ent.ren, AV.inn, AV.inns, AObj.inn, *]; done)))) ?_)
        exact ⟨cap', by rw [e2]; exact hc', by rw [e1, e2], by rw [e1]⟩
      have hi64 : 64 * (i + 1) ≤ len := by omega
      have hst := stAt_succ B i (by omega)
      rw [← hblk i hi64] at hst
      (conv => whnf)
      have fin : ∀ cap'', AC Try.prog 80 [.agg [.ints .u32 8 (stAt B i).l], .sl 0 (off + 64 * i + 0) (Int.toNat 64 - 0) cap''] [⟨1, true, none, .ints .u8 xs⟩] (fun r hp' => r = .agg [.ints .u32 8 (stAt B (i + 1)).l] ∧ hp' = [⟨1, true, none, .ints .u8 xs⟩]) := fun cap'' => by
        rw [hst]
        exact chunk_ok (stAt B i) xs (off + 64 * i) cap'' (by omega)
      cases cap' with
      | none =>
        refine AW.draw [(false, 0), (false, 1), (false, 2), (true, 3), (true, 4)] (keep := fun _ => true) mixed_ok' tokT (by kernel_rfl) (by kernel_rfl) ?_
        ((conv => whnf); (repeat (((refine Exists.intro _ (And.intro (by ((conv => whnf); (repeat ((refine And.intro (by first | exact rfl | omega) ?_); (conv => whnf))))) ?_)); (conv => whnf)))))
        refine AC.frame (fin none) [0] (by (repeat' (first | exact True.intro | exact rfl | refine And.intro ?_ ?_))) (by rfl) (by (repeat' (first | exact True.intro | refine And.intro ?_ ?_ | (simp [AV.ren, AV.rens, AObj.ren, Ent.ren, AV.inn, AV.inns, AObj.inn, *]; done)))) (by rfl) ?_
        rintro r0 hp0 ⟨rfl, rfl⟩
        ((conv => whnf); (repeat (first | ((with_reducible (refine And.intro (show Go.Aw.againsK _ _ _ _ _ from ?_) ?_)); (focus (repeat' (first | ((with_reducible (show Go.Aw.againsK _ _ _ _ _)); (conv => whnf)) | ((with_reducible (show Go.Aw.againK _ _ _ _ _)); (conv => whnf)) | (with_reducible (exact True.intro)) | (with_reducible (refine And.intro ?_ ?_)) | exact rfl))); (conv => whnf)) | ((refine And.intro (by omega) ?_); (conv => whnf)))))
        rw [show Int.toNat 64 = 64 from rfl, show off + 64 * i + 64 = off + 64 * (i + 1) by omega, show len - 64 * i - 64 = len - 64 * (i + 1) by omega]
        (refine Turned.of [0, 1, 2] [(0, .sl 0 off len cap), (2, .ptr 1 0 0 0), (3, .ptr 2 0 0 0), (4, .sl 0 (off + 64 * (i + 1)) (len - 64 * (i + 1)) none)] [⟨1, true, none, .ints .u8 xs⟩, ⟨32, false, none, .var [.ints .u8 32 (List.replicate 32 0)]⟩, ⟨8, false, none, .var [.ints .u32 8 (stAt B (i + 1)).l]⟩] (by rfl) (by rfl) (by rfl) (by (repeat' (first | exact True.intro | exact rfl | refine And.intro ?_ ?_ | (simp [AV.ren, AV.rens, AObj.ren, Ent.ren, AV.inn, AV.inns, AObj.inn, *]; done)))) (by (repeat' (first | exact True.intro | exact rfl | refine And.intro ?_ ?_ | (simp [AV.ren, AV.rens, AObj.ren, Ent.ren, AV.inn, AV.inns, AObj.inn, *]; done)))) ?_)
        exact ⟨len - (i + 1), by omega, i + 1, none, rfl, by omega, (fun c hc => by cases hc), rfl, rfl⟩
      | some c =>
        have hc := hc' c rfl
        refine AW.draw [(false, 0), (false, 1), (false, 2), (true, 3), (true, 4)] (keep := fun _ => true) mixed_ok' tokT (by kernel_rfl) (by kernel_rfl) ?_
        ((conv => whnf); (repeat (((refine Exists.intro _ (And.intro (by ((conv => whnf); (repeat ((refine And.intro (by first | exact rfl | omega) ?_); (conv => whnf))))) ?_)); (conv => whnf)))))
        refine AC.frame (fin (some (c - 0))) [0] (by (repeat' (first | exact True.intro | exact rfl | refine And.intro ?_ ?_))) (by rfl) (by (repeat' (first | exact True.intro | refine And.intro ?_ ?_ | (simp [AV.ren, AV.rens, AObj.ren, Ent.ren, AV.inn, AV.inns, AObj.inn, *]; done)))) (by rfl) ?_
        rintro r0 hp0 ⟨rfl, rfl⟩
        ((conv => whnf); (repeat (first | ((with_reducible (refine And.intro (show Go.Aw.againsK _ _ _ _ _ from ?_) ?_)); (focus (repeat' (first | ((with_reducible (show Go.Aw.againsK _ _ _ _ _)); (conv => whnf)) | ((with_reducible (show Go.Aw.againK _ _ _ _ _)); (conv => whnf)) | (with_reducible (exact True.intro)) | (with_reducible (refine And.intro ?_ ?_)) | exact rfl))); (conv => whnf)) | ((refine And.intro (by first | assumption | omega) ?_); (conv => whnf)))))
        rw [show Int.toNat 64 = 64 from rfl, show off + 64 * i + 64 = off + 64 * (i + 1) by omega, show len - 64 * i - 64 = len - 64 * (i + 1) by omega]
        (refine Turned.of [0, 1, 2] [(0, .sl 0 off len cap), (2, .ptr 1 0 0 0), (3, .ptr 2 0 0 0), (4, .sl 0 (off + 64 * (i + 1)) (len - 64 * (i + 1)) (some (c - 64)))] [⟨1, true, none, .ints .u8 xs⟩, ⟨32, false, none, .var [.ints .u8 32 (List.replicate 32 0)]⟩, ⟨8, false, none, .var [.ints .u32 8 (stAt B (i + 1)).l]⟩] (by rfl) (by rfl) (by rfl) (by (repeat' (first | exact True.intro | exact rfl | refine And.intro ?_ ?_ | (simp [AV.ren, AV.rens, AObj.ren, Ent.ren, AV.inn, AV.inns, AObj.inn, *]; done)))) (by (repeat' (first | exact True.intro | exact rfl | refine And.intro ?_ ?_ | (simp [AV.ren, AV.rens, AObj.ren, Ent.ren, AV.inn, AV.inns, AObj.inn, *]; done)))) ?_)
        exact ⟨len - (i + 1), by omega, i + 1, some (c - 64), rfl, by omega, (fun c' hc' => by cases hc'; omega), rfl, rfl⟩
  · rintro fr hp ⟨cap', hc', rfl, rfl⟩
    obtain ⟨s0, hs0⟩ : ∃ s0, stAt B (len / 64) = s0 := ⟨_, rfl⟩
    obtain ⟨rem, hrem⟩ : ∃ rem, len % 64 = rem := ⟨_, rfl⟩
    have hr64 : rem < 64 := by omega
    have hoff : off + 64 * (len / 64) + rem = off + len := by omega
    obtain ⟨of, hof⟩ : ∃ of, off + 64 * (len / 64) = of := ⟨_, rfl⟩
    rw [hof] at hoff
    rw [hs0, hrem, hof]
    obtain ⟨R, hR⟩ : ∃ R, (xs.drop of).take rem = R := ⟨_, rfl⟩
    have hRl : R.length = rem := by rw [← hR]; simp; omega
    obtain ⟨M, hM⟩ : ∃ M, (if 55 < rem then 128 else 64 : Nat) = M := ⟨_, rfl⟩
    have hMz : M = rem + 9 + (119 - rem) % 64 := by rw [← hM]; split <;> omega
    have hMc : M = 64 ∨ M = 128 := by rw [← hM]; split <;> simp
    have hz : ∀ n : Nat, Int.toNat ((n : Nat) : Int) = n := fun n => Int.toNat_natCast n
    refine AW.cutT (fun fr hp => fr = [(0, .sl 0 off len cap), (2, .ptr 1 0 0 0), (3, .ptr 2 0 0 0), (4, .sl 0 of rem cap'), (5, .sl 3 0 64 (some 64))] ∧
      hp = [⟨1, true, none, .ints .u8 xs⟩, ⟨32, false, none, .var [.ints .u8 32 (List.replicate 32 0)]⟩, ⟨8, false, none, .var [.ints .u32 8 s0.l]⟩, ⟨1, false, none, .ints .u8 (List.replicate 64 0)⟩]) ?_ ?_
    · refine ev_sound tokT (keep := fun _ => true) ?_
      ((conv => whnf); (repeat (((refine And.intro (by first | omega | (simp [roomMost, *]; done)) ?_); (conv => whnf)))))
      (refine Turned.of [0, 1, 2, 3] [(0, .sl 0 off len cap), (2, .ptr 1 0 0 0), (3, .ptr 2 0 0 0), (4, .sl 0 of rem cap'), (5, .sl 3 0 64 (some 64))] [⟨1, true, none, .ints .u8 xs⟩, ⟨32, false, none, .var [.ints .u8 32 (List.replicate 32 0)]⟩, ⟨8, false, none, .var [.ints .u32 8 s0.l]⟩, ⟨1, false, none, .ints .u8 (List.replicate 64 0)⟩] (by rfl) (by rfl) (by rfl) (by (repeat' (first | exact True.intro | exact rfl | refine And.intro ?_ ?_ | (simp [AV.ren, AV.rens, AObj.ren, Ent.ren, AV.inn, AV.inns, AObj.inn, *]; done)))) (by (repeat' (first | exact True.intro | exact rfl | refine And.intro ?_ ?_ | (simp [AV.ren, AV.rens, AObj.ren, Ent.ren, AV.inn, AV.inns, AObj.inn, *]; done)))) ?_)
      exact ⟨rfl, rfl⟩
    rintro fr hp ⟨rfl, rfl⟩
    refine AW.cutT (fun fr hp => fr = [(0, .sl 0 off len cap), (2, .ptr 1 0 0 0), (3, .ptr 2 0 0 0), (4, .sl 0 of rem cap'), (5, .sl 3 0 M (some M))] ∧
      hp = [⟨1, true, none, .ints .u8 xs⟩, ⟨32, false, none, .var [.ints .u8 32 (List.replicate 32 0)]⟩, ⟨8, false, none, .var [.ints .u32 8 s0.l]⟩, ⟨1, false, none, .ints .u8 (List.replicate M 0)⟩]) ?_ ?_
    · refine AW.pre tokT (fun _ => true) ?_
      (conv => whnf)
      refine ev_sound tokT (keep := fun _ => true) ?_
      (conv => whnf); (cases h55 : (decide ((↑rem : Int) > 55) : Bool) <;> (try simp only [beq_iff_eq, beq_eq_false_iff_ne, ne_eq, decide_eq_true_eq, decide_eq_false_iff_not, bne_iff_ne, bne_eq_false_iff_eq, Bool.not_eq_true, Bool.not_eq_false, gt_iff_lt, ge_iff_le] at h55) <;> (try (exfalso; omega)))
      case' false =>
        rw [if_neg (by omega)] at hM
        subst hM
        clear hMz hMc
        (conv => whnf)
        (refine Turned.of [0, 1, 2, 3] [(0, .sl 0 off len cap), (2, .ptr 1 0 0 0), (3, .ptr 2 0 0 0), (4, .sl 0 of rem cap'), (5, .sl 3 0 64 (some 64))] [⟨1, true, none, .ints .u8 xs⟩, ⟨32, false, none, .var [.ints .u8 32 (List.replicate 32 0)]⟩, ⟨8, false, none, .var [.ints .u32 8 s0.l]⟩, ⟨1, false, none, .ints .u8 (List.replicate 64 0)⟩] (by rfl) (by rfl) (by rfl) (by (repeat' (first | exact True.intro | exact rfl | refine And.intro ?_ ?_ | (simp [AV.ren, AV.rens, AObj.ren, Ent.ren, AV.inn, AV.inns, AObj.inn, *]; done)))) (by (repeat' (first | exact True.intro | exact rfl | refine And.intro ?_ ?_ | (simp [AV.ren, AV.rens, AObj.ren, Ent.ren, AV.inn, AV.inns, AObj.inn, *]; done)))) ?_)
        exact ⟨rfl, rfl⟩
      rw [if_pos (by omega)] at hM
      subst hM
      clear hMz hMc
      ((conv => whnf); (repeat (((refine And.intro (by first | omega | (simp [roomMost, *]; done)) ?_); (conv => whnf)))))
      rw [show Int.toNat 128 = 128 from rfl]
      (refine Turned.of [0, 1, 2, 4] [(0, .sl 0 off len cap), (2, .ptr 1 0 0 0), (3, .ptr 2 0 0 0), (4, .sl 0 of rem cap'), (5, .sl 3 0 128 (some 128))] [⟨1, true, none, .ints .u8 xs⟩, ⟨32, false, none, .var [.ints .u8 32 (List.replicate 32 0)]⟩, ⟨8, false, none, .var [.ints .u32 8 s0.l]⟩, ⟨1, false, none, .ints .u8 (List.replicate 128 0)⟩] (by rfl) (by rfl) (by rfl) (by (repeat' (first | exact True.intro | exact rfl | refine And.intro ?_ ?_ | (simp [AV.ren, AV.rens, AObj.ren, Ent.ren, AV.inn, AV.inns, AObj.inn, *]; done)))) (by (repeat' (first | exact True.intro | exact rfl | refine And.intro ?_ ?_ | (simp [AV.ren, AV.rens, AObj.ren, Ent.ren, AV.inn, AV.inns, AObj.inn, *]; done)))) ?_)
      exact ⟨rfl, rfl⟩
    · rintro fr hp ⟨rfl, rfl⟩
      refine AW.pre tokT (fun _ => true) ?_; ((conv => whnf); (repeat (((refine And.intro (by first | omega | (simp; done)) ?_); (conv => whnf)))))
      rw [hR, hRl, Nat.min_eq_left (show rem ≤ M by omega)]
      have hC0 : List.take 0 (List.replicate M (0 : Int)) ++ List.take rem R ++ List.drop (0 + rem) (List.replicate M 0) = R ++ List.replicate (M - rem) 0 := by
        rw [List.take_zero, List.nil_append, List.take_of_length_le (by omega), Nat.zero_add, List.drop_replicate]
      rw [hC0]
      (refine AW.turnL [0, 1, 2, 3] [(0, .sl 0 off len cap), (2, .ptr 1 0 0 0), (3, .ptr 2 0 0 0), (4, .sl 0 of rem cap'), (5, .sl 3 0 M (some M))] [⟨1, true, none, .ints .u8 xs⟩, ⟨32, false, none, .var [.ints .u8 32 (List.replicate 32 0)]⟩, ⟨8, false, none, .var [.ints .u32 8 s0.l]⟩, ⟨1, false, none, .ints .u8 (R ++ List.replicate (M - rem) 0)⟩] (by rfl) (by rfl) (by rfl) (by (repeat' (first | exact True.intro | exact rfl | refine And.intro ?_ ?_ | (simp [AV.ren, AV.rens, AObj.ren, Ent.ren, AV.inn, AV.inns, AObj.inn, *]; done)))) (by (repeat' (first | exact True.intro | exact rfl | refine And.intro ?_ ?_ | (simp [AV.ren, AV.rens, AObj.ren, Ent.ren, AV.inn, AV.inns, AObj.inn, *]; done)))) ?_)
      obtain ⟨N, hN⟩ : ∃ N : Int, 8 * (len : Int) = N := ⟨_, rfl⟩
      have hN0 : 0 ≤ N := by omega
      have hN1 : N < 18446744073709551616 := by omega
      obtain ⟨z, hzz⟩ : ∃ z, (119 - rem) % 64 = z := ⟨_, rfl⟩
      have hMr : M - rem = 1 + z + 8 := by omega
      have hC1 : (R ++ List.replicate (M - rem) 0).set rem 128 = R ++ 128 :: List.replicate z 0 ++ bitL N 0 := by
        rw [List.set_append_right _ _ (by omega), show rem - R.length = 0 by omega, hMr, show 1 + z + 8 = (z + 8) + 1 by omega, List.replicate_succ, List.set_cons_zero, List.append_assoc]
        congr 1
        rw [List.cons_append]
        congr 1
        rw [← List.replicate_append_replicate]; rfl
      have hlenM : (R ++ List.replicate (M - rem) (0 : Int)).length = M := by simp; omega
      refine AW.pre tokT (fun _ => true) ?_; ((conv => whnf); (repeat (((refine And.intro (by omega) ?_); (conv => whnf)))))
      rw [show 0 + (rem : Int).toNat = rem by simp, hC1]
      refine AW.pre tokT (fun _ => true) ?_; (conv => whnf)
      rw [IntWalk.i64_in _ (by omega), show (len : Int) * 8 = N by omega]
      refine AW.cutT (fun fr hp => fr = [(0, .sl 0 off len cap), (2, .ptr 1 0 0 0), (3, .ptr 2 0 0 0), (5, .sl 3 0 M (some M))] ∧
        hp = [⟨1, true, none, .ints .u8 xs⟩, ⟨32, false, none, .var [.ints .u8 32 (List.replicate 32 0)]⟩, ⟨8, false, none, .var [.ints .u32 8 s0.l]⟩, ⟨1, false, none, .ints .u8 (R ++ 128 :: List.replicate z 0 ++ be8 N)⟩]) ?_ ?_
      · refine AW.pre tokT (fun _ => true) ?_; (conv => whnf)
        rw [IntWalk.i64_in _ (by omega)]
        refine AW.block ?_
        (refine AW.turnL [0, 1, 2, 3] [(0, .sl 0 off len cap), (2, .ptr 1 0 0 0), (3, .ptr 2 0 0 0), (5, .sl 3 0 M (some M)), (6, .int .i64 N), (7, .int .i64 ((M : Int) - 1))] [⟨1, true, none, .ints .u8 xs⟩, ⟨32, false, none, .var [.ints .u8 32 (List.replicate 32 0)]⟩, ⟨8, false, none, .var [.ints .u32 8 s0.l]⟩, ⟨1, false, none, .ints .u8 (R ++ 128 :: List.replicate z 0 ++ bitL N 0)⟩] (by rfl) (by rfl) (by rfl) (by (repeat' (first | exact True.intro | exact rfl | refine And.intro ?_ ?_ | (simp [AV.ren, AV.rens, AObj.ren, Ent.ren, AV.inn, AV.inns, AObj.inn, *]; done)))) (by (repeat' (first | exact True.intro | exact rfl | refine And.intro ?_ ?_ | (simp [AV.ren, AV.rens, AObj.ren, Ent.ren, AV.inn, AV.inns, AObj.inn, *]; done)))) ?_)
        refine AW.loop (fun q fr hp => ∃ j, q = 8 - j ∧ j ≤ 8 ∧ fr = [(0, .sl 0 off len cap), (2, .ptr 1 0 0 0), (3, .ptr 2 0 0 0), (5, .sl 3 0 M (some M)), (6, .int .i64 (N / 256 ^ j)), (7, .int .i64 ((M : Int) - 1 - j))] ∧
          hp = [⟨1, true, none, .ints .u8 xs⟩, ⟨32, false, none, .var [.ints .u8 32 (List.replicate 32 0)]⟩, ⟨8, false, none, .var [.ints .u32 8 s0.l]⟩, ⟨1, false, none, .ints .u8 (R ++ 128 :: List.replicate z 0 ++ bitL N j)⟩]) 8 ?_ ?_
        · exact ⟨0, rfl, by omega, by simp, rfl⟩
        · rintro q fr hp ⟨j, rfl, hj, rfl, rfl⟩ -
          have hNj0 : 0 ≤ N / 256 ^ j := Int.ediv_nonneg hN0 (Int.le_of_lt (Int.pow_pos (by omega)))
          refine AW.post ?_
          refine ev_sound tokT (keep := fun _ => true) ?_
          (conv => whnf); (cases hpos : (decide (N / 256 ^ j > 0) : Bool) <;> (try simp only [beq_iff_eq, beq_eq_false_iff_ne, ne_eq, decide_eq_true_eq, decide_eq_false_iff_not, bne_iff_ne, bne_eq_false_iff_eq, Bool.not_eq_true, Bool.not_eq_false, gt_iff_lt, ge_iff_le] at hpos) <;> (try (exfalso; omega)))
          case' false =>
            (conv => whnf)
            rw [bitL_done N hj hN0 hN1 (by omega)]
            (refine Turned.of [0, 1, 2, 3] [(0, .sl 0 off len cap), (2, .ptr 1 0 0 0), (3, .ptr 2 0 0 0), (5, .sl 3 0 M (some M))] [⟨1, true, none, .ints .u8 xs⟩, ⟨32, false, none, .var [.ints .u8 32 (List.replicate 32 0)]⟩, ⟨8, false, none, .var [.ints .u32 8 s0.l]⟩, ⟨1, false, none, .ints .u8 (R ++ 128 :: List.replicate z 0 ++ be8 N)⟩] (by rfl) (by rfl) (by rfl) (by (repeat' (first | exact True.intro | exact rfl | refine And.intro ?_ ?_ | (simp [AV.ren, AV.rens, AObj.ren, Ent.ren, AV.inn, AV.inns, AObj.inn, *]; done)))) (by (repeat' (first | exact True.intro | exact rfl | refine And.intro ?_ ?_ | (simp [AV.ren, AV.rens, AObj.ren, Ent.ren, AV.inn, AV.inns, AObj.inn, *]; done)))) ?_)
            exact ⟨rfl, rfl⟩
          have hj8 : j < 8 := by
            rcases Nat.lt_or_ge j 8 with g | g
            · exact g
            · have : j = 8 := by omega
              subst this
              have : N / 256 ^ 8 = 0 := Int.ediv_eq_zero_of_lt hN0 (by simpa using hN1)
              omega
          have hset := bitL_set N hj8
          have hlj : (R ++ 128 :: List.replicate z 0 ++ bitL N j).length = M := by simp [bitL_length N hj]; omega
          have e1 : ((M : Int) - 1 - j).toNat = M - 1 - j := by omega
          have hC2 : (R ++ 128 :: List.replicate z 0 ++ bitL N j).set (M - 1 - j) (N / 256 ^ j % 256) = R ++ 128 :: List.replicate z 0 ++ bitL N (j + 1) := by
            rw [List.set_append_right _ _ (by simp; omega), ← hset]
            congr 2
            simp; omega
          have hsh : shrI .i64 (N / 256 ^ j) 8 = N / 256 ^ (j + 1) := by
            unfold shrI
            rw [show min (Int.toNat 8) IntKind.i64.bits = 8 from rfl, Int.fdiv_eq_ediv_of_nonneg _ (by decide), show (256 : Int) ^ (j + 1) = 256 ^ j * 256 from Int.pow_succ _ _, ← Int.ediv_ediv_of_nonneg (Int.le_of_lt (Int.pow_pos (by omega)))]
            rfl
          ((conv => whnf); (repeat (((refine And.intro (by omega) ?_); (conv => whnf)))))
          rw [hsh, e1, IntKind.wrap_u8, Nat.zero_add, hC2, IntWalk.i64_in _ (by omega)]
          (refine Turned.of [0, 1, 2, 3] [(0, .sl 0 off len cap), (2, .ptr 1 0 0 0), (3, .ptr 2 0 0 0), (5, .sl 3 0 M (some M)), (6, .int .i64 (N / 256 ^ (j + 1))), (7, .int .i64 ((M : Int) - 1 - j - 1))] [⟨1, true, none, .ints .u8 xs⟩, ⟨32, false, none, .var [.ints .u8 32 (List.replicate 32 0)]⟩, ⟨8, false, none, .var [.ints .u32 8 s0.l]⟩, ⟨1, false, none, .ints .u8 (R ++ 128 :: List.replicate z 0 ++ bitL N (j + 1))⟩] (by rfl) (by rfl) (by rfl) (by (repeat' (first | exact True.intro | exact rfl | refine And.intro ?_ ?_ | (simp [AV.ren, AV.rens, AObj.ren, Ent.ren, AV.inn, AV.inns, AObj.inn, *]; done)))) (by (repeat' (first | exact True.intro | exact rfl | refine And.intro ?_ ?_ | (simp [AV.ren, AV.rens, AObj.ren, Ent.ren, AV.inn, AV.inns, AObj.inn, *]; done)))) ?_)
          refine ⟨8 - (j + 1), by omega, j + 1, rfl, by omega, ?_, rfl⟩
          rw [show (M : Int) - 1 - j - 1 = (M : Int) - 1 - ((j + 1 : Nat) : Int) by omega]
      · rintro fr hp ⟨rfl, rfl⟩
        obtain ⟨C, hC⟩ : ∃ C, R ++ 128 :: List.replicate z 0 ++ be8 N = C := ⟨_, rfl⟩
        have hCl : C.length = M := by rw [← hC]; simp [be8]; omega
        have hCB : B.drop (64 * (len / 64)) = C := by
          rw [hBd _ (by omega), ← hC]
          have : L.drop (64 * (len / 64)) = R := by
            rw [← hL, ← hR, List.drop_take, List.drop_drop, hof]
            congr 1; omega
          rw [this]
          unfold padL
          rw [show len % 64 = rem from hrem, hzz, hN]
          simp
        rw [hC]
        -- the last blocks
        obtain ⟨n0, hn0⟩ : ∃ n0, len / 64 = n0 := ⟨_, rfl⟩
        have hMn : 64 * (M / 64) = M := by omega
        have hBM : B.length = 64 * n0 + M := by omega
        refine AW.cutT (fun fr hp => fr = [(2, .ptr 1 0 0 0), (3, .ptr 2 0 0 0)] ∧
          hp = [⟨1, true, none, .ints .u8 xs⟩, ⟨32, false, none, .var [.ints .u8 32 (List.replicate 32 0)]⟩, ⟨8, false, none, .var [.ints .u32 8 (stAt B (n0 + M / 64)).l]⟩]) ?_ ?_
        · refine AW.block ?_
          refine AW.loop (fun q fr hp => ∃ k, q = M - k ∧ 64 * k ≤ M ∧ fr = [(0, .sl 0 off len cap), (2, .ptr 1 0 0 0), (3, .ptr 2 0 0 0), (5, .sl 3 (64 * k) (M - 64 * k) (some (M - 64 * k)))] ∧
            hp = [⟨1, true, none, .ints .u8 xs⟩, ⟨32, false, none, .var [.ints .u8 32 (List.replicate 32 0)]⟩, ⟨8, false, none, .var [.ints .u32 8 (stAt B (n0 + k)).l]⟩, ⟨1, false, none, .ints .u8 C⟩]) M ?_ ?_
          · exact ⟨0, rfl, by omega, rfl, by rw [Nat.add_zero, ← hs0, hn0]⟩
          · rintro q fr hp ⟨k, rfl, hk, rfl, rfl⟩ -
            refine AW.post ?_
            refine ev_sound tokT (keep := fun _ => true) ?_
            (conv => whnf); (cases hpos : (decide ((↑(M - 64 * k) : Int) > 0) : Bool) <;> (try simp only [beq_iff_eq, beq_eq_false_iff_ne, ne_eq, decide_eq_true_eq, decide_eq_false_iff_not, bne_iff_ne, bne_eq_false_iff_eq, Bool.not_eq_true, Bool.not_eq_false, gt_iff_lt, ge_iff_le] at hpos) <;> (try (exfalso; omega)))
            case' false =>
              (conv => whnf)
              have : k = M / 64 := by omega
              subst this
              (refine Turned.of [0, 1, 2] [(2, .ptr 1 0 0 0), (3, .ptr 2 0 0 0)] [⟨1, true, none, .ints .u8 xs⟩, ⟨32, false, none, .var [.ints .u8 32 (List.replicate 32 0)]⟩, ⟨8, false, none, .var [.ints .u32 8 (stAt B (n0 + M / 64)).l]⟩] (by rfl) (by rfl) (by rfl) (by (repeat' (first | exact True.intro | exact rfl | refine And.intro ?_ ?_ | (simp [AV.ren, AV.rens, AObj.ren, Ent.ren, AV.inn, AV.inns, AObj.inn, *]; done)))) (by (repeat' (first | exact True.intro | exact rfl | refine And.intro ?_ ?_ | (simp [AV.ren, AV.rens, AObj.ren, Ent.ren, AV.inn, AV.inns, AObj.inn, *]; done)))) ?_)
              exact ⟨rfl, rfl⟩
            have hk64 : 64 * (k + 1) ≤ M := by omega
            have hst := stAt_succ B (n0 + k) (by omega)
            rw [show B.drop (64 * (n0 + k)) = C.drop (64 * k) by rw [← hCB, List.drop_drop, hn0]; congr 1; omega] at hst
            have fin : AC Try.prog 80 [.agg [.ints .u32 8 (stAt B (n0 + k)).l], .sl 0 (64 * k + 0) (Int.toNat 64 - 0) (some (M - 64 * k - 0))] [⟨1, true, none, .ints .u8 C⟩] (fun r hp' => r = .agg [.ints .u32 8 (stAt B (n0 + (k + 1))).l] ∧ hp' = [⟨1, true, none, .ints .u8 C⟩]) := by
              rw [← Nat.add_assoc, hst]
              exact chunk_ok (stAt B (n0 + k)) C (64 * k) _ (by omega)
            (conv => whnf)
            refine AW.draw [(false, 0), (false, 1), (false, 2), (true, 3), (true, 4)] (keep := fun _ => true) mixed_ok' tokT (by kernel_rfl) (by kernel_rfl) ?_
            ((conv => whnf); (repeat (((refine Exists.intro _ (And.intro (by ((conv => whnf); (repeat ((refine And.intro (by first | exact rfl | omega) ?_); (conv => whnf))))) ?_)); (conv => whnf)))))
            refine AC.frame fin [3] (by (repeat' (first | exact True.intro | exact rfl | refine And.intro ?_ ?_))) (by rfl) (by (repeat' (first | exact True.intro | refine And.intro ?_ ?_ | (simp [AV.ren, AV.rens, AObj.ren, Ent.ren, AV.inn, AV.inns, AObj.inn, *]; done)))) (by rfl) ?_
            rintro r0 hp0 ⟨rfl, rfl⟩
            ((conv => whnf); (repeat (first | ((with_reducible (refine And.intro (show Go.Aw.againsK _ _ _ _ _ from ?_) ?_)); (focus (repeat' (first | ((with_reducible (show Go.Aw.againsK _ _ _ _ _)); (conv => whnf)) | ((with_reducible (show Go.Aw.againK _ _ _ _ _)); (conv => whnf)) | (with_reducible (exact True.intro)) | (with_reducible (refine And.intro ?_ ?_)) | exact rfl))); (conv => whnf)) | ((refine And.intro (by omega) ?_); (conv => whnf)))))
            rw [show Int.toNat 64 = 64 from rfl, show 64 * k + 64 = 64 * (k + 1) by omega, show M - 64 * k - 64 = M - 64 * (k + 1) by omega]
            (refine Turned.of [0, 1, 2, 3] [(0, .sl 0 off len cap), (2, .ptr 1 0 0 0), (3, .ptr 2 0 0 0), (5, .sl 3 (64 * (k + 1)) (M - 64 * (k + 1)) (some (M - 64 * (k + 1))))] [⟨1, true, none, .ints .u8 xs⟩, ⟨32, false, none, .var [.ints .u8 32 (List.replicate 32 0)]⟩, ⟨8, false, none, .var [.ints .u32 8 (stAt B (n0 + (k + 1))).l]⟩, ⟨1, false, none, .ints .u8 C⟩] (by rfl) (by rfl) (by rfl) (by (repeat' (first | exact True.intro | exact rfl | refine And.intro ?_ ?_ | (simp [AV.ren, AV.rens, AObj.ren, Ent.ren, AV.inn, AV.inns, AObj.inn, *]; done)))) (by (repeat' (first | exact True.intro | exact rfl | refine And.intro ?_ ?_ | (simp [AV.ren, AV.rens, AObj.ren, Ent.ren, AV.inn, AV.inns, AObj.inn, *]; done)))) ?_)
            exact ⟨M - (k + 1), by omega, k + 1, rfl, by omega, rfl, rfl⟩
        · rintro fr hp ⟨rfl, rfl⟩
          have hall := stAt_all B (n0 + M / 64) (by omega)
          obtain ⟨s, hs⟩ : ∃ s, stAt B (n0 + M / 64) = s := ⟨_, rfl⟩
          have hsha : shaL L = outS s := by
            unfold shaL
            rw [hLl, hB, hall, hs]
          rw [hs, hsha]
          refine AW.pre tokT (fun _ => true) ?_; (conv => whnf)
          refine AW.cutT (fun fr hp => fr = [(2, .ptr 1 0 0 0), (8, .ptr 2 0 0 0)] ∧ hp = [⟨1, true, none, .ints .u8 xs⟩, ⟨32, false, none, .var [.ints .u8 32 (List.replicate 32 0)]⟩, ⟨32, false, none, .var [.ints .u8 32 (outS s)]⟩]) ?_ ?_
          · refine AW.pre tokT (fun _ => true) ?_; (conv => whnf)
            refine AW.block ?_
            (refine AW.turnL [0, 1, 2, 3] [(2, .ptr 1 0 0 0), (3, .ptr 2 0 0 0), (8, .ptr 3 0 0 0), (9, .int .i64 0)] [⟨1, true, none, .ints .u8 xs⟩, ⟨32, false, none, .var [.ints .u8 32 (List.replicate 32 0)]⟩, ⟨8, false, none, .var [.ints .u32 8 s.l]⟩, ⟨32, false, none, .var [.ints .u8 32 (List.replicate 32 0)]⟩] (by rfl) (by rfl) (by rfl) (by (repeat' (first | exact True.intro | exact rfl | refine And.intro ?_ ?_ | (simp [AV.ren, AV.rens, AObj.ren, Ent.ren, AV.inn, AV.inns, AObj.inn, *]; done)))) (by (repeat' (first | exact True.intro | exact rfl | refine And.intro ?_ ?_ | (simp [AV.ren, AV.rens, AObj.ren, Ent.ren, AV.inn, AV.inns, AObj.inn, *]; done)))) ?_)
            refine AW.loop (fun q fr hp => ∃ j, q = 32 - j ∧ j ≤ 32 ∧ fr = [(2, .ptr 1 0 0 0), (3, .ptr 2 0 0 0), (8, .ptr 3 0 0 0), (9, .int .i64 j)] ∧
              hp = [⟨1, true, none, .ints .u8 xs⟩, ⟨32, false, none, .var [.ints .u8 32 (List.replicate 32 0)]⟩, ⟨8, false, none, .var [.ints .u32 8 s.l]⟩, ⟨32, false, none, .var [.ints .u8 32 (outI s j)]⟩]) 32 ?_ ?_
            · exact ⟨0, rfl, by omega, rfl, rfl⟩
            · rintro q fr hp ⟨j, rfl, hj, rfl, rfl⟩ -
              refine AW.post ?_
              refine ev_sound tokT (keep := fun _ => true) ?_
              (conv => whnf); (cases hlt : (decide ((↑j : Int) < 32) : Bool) <;> (try simp only [beq_iff_eq, beq_eq_false_iff_ne, ne_eq, decide_eq_true_eq, decide_eq_false_iff_not, bne_iff_ne, bne_eq_false_iff_eq, Bool.not_eq_true, Bool.not_eq_false, gt_iff_lt, ge_iff_le] at hlt) <;> (try (exfalso; omega)))
              case' false =>
                (conv => whnf)
                have : j = 32 := by omega
                subst this
                (refine Turned.of [0, 1, 3] [(2, .ptr 1 0 0 0), (8, .ptr 2 0 0 0)] [⟨1, true, none, .ints .u8 xs⟩, ⟨32, false, none, .var [.ints .u8 32 (List.replicate 32 0)]⟩, ⟨32, false, none, .var [.ints .u8 32 (outI s 32)]⟩] (by rfl) (by rfl) (by rfl) (by (repeat' (first | exact True.intro | exact rfl | refine And.intro ?_ ?_ | (simp [AV.ren, AV.rens, AObj.ren, Ent.ren, AV.inn, AV.inns, AObj.inn, *]; done)))) (by (repeat' (first | exact True.intro | exact rfl | refine And.intro ?_ ?_ | (simp [AV.ren, AV.rens, AObj.ren, Ent.ren, AV.inn, AV.inns, AObj.inn, *]; done)))) ?_)
                refine ⟨rfl, ?_⟩
                unfold outI
                rw [List.take_of_length_le (by rw [outS_length]; omega)]; simp
              have hj32 : j < 32 := by omega
              have hl := l_get s hj32
              have ho := out_get s hj32
              have hset := outI_set s hj32
              have hq : IntKind.i64.wrap ((j : Int).tdiv 4) = ((j / 4 : Nat) : Int) := by
                rw [Int.tdiv_eq_ediv_of_nonneg (by omega), IntWalk.i64_in _ (by omega)]; omega
              have hr : (j : Int).tmod 4 = ((j % 4 : Nat) : Int) := by
                rw [Int.tmod_eq_emod_of_nonneg (by omega)]; omega
              have hs' : IntKind.i64.wrap (24 - IntKind.i64.wrap (8 * ((j % 4 : Nat) : Int))) = ((24 - 8 * (j % 4) : Nat) : Int) := by
                rw [IntWalk.i64_in (8 * _) (by omega), IntWalk.i64_in _ (by omega)]; omega
              have hs'' : 0 ≤ IntKind.i64.wrap (24 - IntKind.i64.wrap (8 * (j : Int).tmod 4)) := by rw [hr, hs']; omega
              ((conv => whnf); (repeat (((refine And.intro (by first | assumption | omega) ?_); (conv => whnf)))))
              rw [hq]
              (conv => whnf)
              rw [hr, hs', show (((j / 4 : Nat) : Int)).toNat = j / 4 from Int.toNat_natCast _, hl]
              (conv => whnf)
              rw [w_shr _ _ (by omega), ho, show (j : Int).toNat = j from Int.toNat_natCast _]
              rw [hset]
              rw [IntWalk.i64_in _ (by omega)]
              (refine Turned.of [0, 1, 2, 3] [(2, .ptr 1 0 0 0), (3, .ptr 2 0 0 0), (8, .ptr 3 0 0 0), (9, .int .i64 ((j + 1 : Nat) : Int))] [⟨1, true, none, .ints .u8 xs⟩, ⟨32, false, none, .var [.ints .u8 32 (List.replicate 32 0)]⟩, ⟨8, false, none, .var [.ints .u32 8 s.l]⟩, ⟨32, false, none, .var [.ints .u8 32 (outI s (j + 1))]⟩] (by rfl) (by rfl) (by rfl) (by (repeat' (first | exact True.intro | exact rfl | refine And.intro ?_ ?_ | (simp [AV.ren, AV.rens, AObj.ren, Ent.ren, AV.inn, AV.inns, AObj.inn, *]; done)))) (by (repeat' (first | exact True.intro | exact rfl | refine And.intro ?_ ?_ | (simp [AV.ren, AV.rens, AObj.ren, Ent.ren, AV.inn, AV.inns, AObj.inn, *]; done)))) ?_)
              exact ⟨32 - (j + 1), by omega, j + 1, rfl, by omega, rfl, rfl⟩
          · rintro fr hp ⟨rfl, rfl⟩
            refine ev_sound tokT (keep := fun _ => true) ?_
            (conv => whnf)
            (refine Left.of [0] (.agg [.ints .u8 32 (outS s)]) [⟨1, true, none, .ints .u8 xs⟩] (by rfl) (by rfl) (by rfl) (by (repeat' (first | exact True.intro | exact rfl | refine And.intro ?_ ?_))) (by rfl) (by (repeat' (first | exact True.intro | exact rfl | refine And.intro ?_ ?_))) ?_)
            exact ⟨rfl, rfl⟩
end Go.Aw
end

section
/-
  AwSh6: the double sums, the images, what is fixed of sha. Own work.
-/
set_option linter.unusedVariables false
set_option linter.unusedSimpArgs false
set_option maxRecDepth 20000
open Go.Proofs
namespace Go.Aw

theorem sum1_ok (xs : List Int) (off len : Nat) (cap c0 : Option Nat) (hol : off + len ≤ xs.length) (hl : len ≤ 1152921504606846976) :
    AC Try.prog 30 [.sl 0 0 1 c0] [⟨1, true, none, .row [[.sl 1 off len cap]]⟩, ⟨1, true, none, .ints .u8 xs⟩]
      (fun r hp' => r = .agg [.ints .u8 32 (shaL ((xs.drop off).take len))] ∧ hp' = [⟨1, true, none, .row [[.sl 1 off len cap]]⟩, ⟨1, true, none, .ints .u8 xs⟩]) := by
  have h := sum_ok xs [(off, len, cap)] c0 (by intro p hp; simp at hp; subst hp; exact hol) (by simp) (by simp [catP, Piece.cut]; omega)
  have e : catP xs [(off, len, cap)] = (xs.drop off).take len := by simp [catP, Piece.cut]
  rw [e] at h
  exact h

theorem twice_ok (xs : List Int) (ps : List Piece) (cap : Option Nat) (hps : ∀ p ∈ ps, p.1 + p.2.1 ≤ xs.length) (hn : ps.length ≤ 65536) (hl : (catP xs ps).length ≤ 1152921504606846976) :
    AC Try.prog 32 [.sl 0 0 ps.length cap] [⟨1, true, none, .row (ps.map Piece.av)⟩, ⟨1, true, none, .ints .u8 xs⟩]
      (fun r hp' => r = .agg [.ints .u8 32 (shaL (shaL (catP xs ps)))] ∧ hp' = [⟨1, true, none, .row (ps.map Piece.av)⟩, ⟨1, true, none, .ints .u8 xs⟩]) := by
  refine AC.left (AC.body tokT Try.func32 rfl rfl rfl (by decide) (by rfl) ?_)
  have hs := sum_ok xs ps cap hps hn hl
  have hfix : RowFix 2 (ps.map Piece.av) := by
    unfold RowFix
    intro x hx
    obtain ⟨p, _, rfl⟩ := List.mem_map.1 hx
    simp [Piece.av, AV.inns, AV.inn]
  obtain ⟨els, hels⟩ : ∃ els, ps.map Piece.av = els := ⟨_, rfl⟩
  rw [hels] at hs hfix ⊢
  obtain ⟨L, hL⟩ : ∃ L, shaL (catP xs ps) = L := ⟨_, rfl⟩
  have hLl : L.length = 32 := by rw [← hL, shaL_length]
  rw [hL] at hs ⊢
  refine AW.pre tokT (fun _ => true) ?_; (conv => whnf)
  refine AW.pre tokT (fun _ => true) ?_; (conv => whnf)
  refine AC.frame hs [0, 1] (by (repeat' (first | exact True.intro | exact rfl | refine And.intro ?_ ?_ | exact RowFix.renO (by assumption) rfl | exact RowFix.inn (by assumption) rfl))) (by rfl) (by (repeat' (first | exact True.intro | refine And.intro ?_ ?_ | (simp [AV.ren, AV.rens, AObj.ren, Ent.ren, AV.inn, AV.inns, AObj.inn, *]; done)))) (by rfl) ?_
  rintro r0 hp0 ⟨rfl, rfl⟩
  (conv => whnf)
  refine ev_sound tokT (keep := fun _ => true) ?_
  ((conv => whnf); (repeat (((refine And.intro (by omega) ?_); (conv => whnf)))))
  have h32 : (L.drop 0).take 32 = L := by rw [List.drop_zero, List.take_of_length_le (by omega)]
  refine AC.frame (AC.mono (sum1_ok L 0 32 (some 32) (some 1) (by omega) (by omega)) (K' := fun r hp' => r = .agg [.ints .u8 32 (shaL L)] ∧ hp' = [⟨1, true, none, .row [[.sl 1 0 32 (some 32)]]⟩, ⟨1, true, none, .ints .u8 L⟩]) (fun r hp' h => by rw [h32] at h; exact h)) [5, 4] (by (repeat' (first | exact True.intro | exact rfl | refine And.intro ?_ ?_ | (simp [AV.ren, AV.rens, AObj.ren, Ent.ren, AV.inn, AV.inns, AObj.inn, *]; done)))) (by rfl) (by (repeat' (first | exact True.intro | refine And.intro ?_ ?_ | (simp [AV.ren, AV.rens, AObj.ren, Ent.ren, AV.inn, AV.inns, AObj.inn, *]; done)))) (by rfl) ?_
  rintro r0 hp0 ⟨rfl, rfl⟩
  (conv => whnf)
  (refine Left.of [0, 1] (.agg [.ints .u8 32 (shaL L)]) [⟨1, true, none, .row els⟩, ⟨1, true, none, .ints .u8 xs⟩] (by rfl) (by rfl) (by rfl) (by (repeat' (first | exact True.intro | exact rfl | refine And.intro ?_ ?_ | exact RowFix.ren (by assumption) rfl | exact RowFix.inn (by assumption) rfl))) (by rfl) (by (repeat' (first | exact True.intro | exact rfl | refine And.intro ?_ ?_ | exact RowFix.ren (by assumption) rfl | exact RowFix.inn (by assumption) rfl))) ?_)
  exact ⟨rfl, rfl⟩

theorem reftwice_ok (xs : List Int) (off len : Nat) (cap : Option Nat) (hol : off + len ≤ xs.length) (hsz : len ≤ 4294967296) (hcap : ∀ c, cap = some c → len ≤ c) :
    AC Try.prog 33 [.sl 0 off len cap] [⟨1, true, none, .ints .u8 xs⟩]
      (fun r hp' => r = .agg [.ints .u8 32 (shaL (shaL ((xs.drop off).take len)))] ∧ hp' = [⟨1, true, none, .ints .u8 xs⟩]) := by
  refine AC.left (AC.body tokT Try.func33 rfl rfl rfl (by decide) (by rfl) ?_)
  have hs := refsum_ok xs off len cap hol hsz hcap
  obtain ⟨L, hL⟩ : ∃ L, shaL ((xs.drop off).take len) = L := ⟨_, rfl⟩
  have hLl : L.length = 32 := by rw [← hL, shaL_length]
  rw [hL] at hs ⊢
  refine AW.pre tokT (fun _ => true) ?_; (conv => whnf)
  refine AW.pre tokT (fun _ => true) ?_; (conv => whnf)
  refine AC.frame hs [0] (by (repeat' (first | exact True.intro | exact rfl | refine And.intro ?_ ?_))) (by rfl) (by (repeat' (first | exact True.intro | refine And.intro ?_ ?_ | (simp [AV.ren, AV.rens, AObj.ren, Ent.ren, AV.inn, AV.inns, AObj.inn, *]; done)))) (by rfl) ?_
  rintro r0 hp0 ⟨rfl, rfl⟩
  (conv => whnf)
  refine ev_sound tokT (keep := fun _ => true) ?_
  ((conv => whnf); (repeat (((refine And.intro (by omega) ?_); (conv => whnf)))))
  have h32 : (L.drop 0).take 32 = L := by rw [List.drop_zero, List.take_of_length_le (by omega)]
  refine AC.frame (AC.mono (refsum_ok L 0 32 (some 32) (by omega) (by omega) (fun c hc => by cases hc; omega)) (K' := fun r hp' => r = .agg [.ints .u8 32 (shaL L)] ∧ hp' = [⟨1, true, none, .ints .u8 L⟩]) (fun r hp' h => by rw [h32] at h; exact h)) [3] (by (repeat' (first | exact True.intro | exact rfl | refine And.intro ?_ ?_))) (by rfl) (by (repeat' (first | exact True.intro | refine And.intro ?_ ?_ | (simp [AV.ren, AV.rens, AObj.ren, Ent.ren, AV.inn, AV.inns, AObj.inn, *]; done)))) (by rfl) ?_
  rintro r0 hp0 ⟨rfl, rfl⟩
  (conv => whnf)
  (refine Left.of [0] (.agg [.ints .u8 32 (shaL L)]) [⟨1, true, none, .ints .u8 xs⟩] (by rfl) (by rfl) (by rfl) (by (repeat' (first | exact True.intro | exact rfl | refine And.intro ?_ ?_))) (by rfl) (by (repeat' (first | exact True.intro | exact rfl | refine And.intro ?_ ?_))) ?_)
  exact ⟨rfl, rfl⟩

end Go.Aw
end
