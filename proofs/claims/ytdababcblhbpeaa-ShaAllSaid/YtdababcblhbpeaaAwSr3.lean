/-
  AwSr3: the plain sum. Own work.
-/
import Derived.Test.YtdababcblhbpeaaAwSr2
set_option linter.unusedVariables false
set_option linter.unusedSimpArgs false
set_option maxRecDepth 20000
open Go.Proofs
namespace Go.Aw
attribute [local irreducible] andI orI xorI shlI shrI

theorem takesB_short : ∀ (l : List Int) (s : St) (p : List Int), p.length + l.length < 64 → takesB (s, p) l = (s, p ++ l)
  | [], s, p, _ => by simp [takesB]
  | c :: l, s, p, h => by
    simp only [List.length_cons] at h
    have hne : ¬ p.length = 63 := by omega
    rw [takesB_cons, show takeB (s, p) c = (s, p ++ [c]) by simp only [takeB, if_neg hne], takesB_short l s (p ++ [c]) (by simp; omega)]
    simp
theorem takesB_block (s : St) (l : List Int) (h : l.length = 64) : takesB (s, []) l = (compr s (wordsOf l), []) := by
  have hl : l = l.take 63 ++ [l.getD 63 0] := by
    have := takeSnoc l 63 (by omega)
    rwa [show 63 + 1 = l.length by omega, List.take_length] at this
  rw [hl, takesB_append, takesB_short _ s [] (by simp; omega), List.nil_append, takesB_cons]
  have h63 : (l.take 63).length = 63 := by simp; omega
  simp only [takeB, h63, if_true]
  rfl
/-- the state behind k blocks -/
def stAt (B : List Int) (k : Nat) : St := (takesB (ivS, []) (B.take (64 * k))).1
theorem stAt_zero (B : List Int) : stAt B 0 = ivS := rfl
theorem stAt_eq (B : List Int) : ∀ k, 64 * k ≤ B.length → takesB (ivS, []) (B.take (64 * k)) = (stAt B k, [])
  | 0, _ => rfl
  | k + 1, h => by
    have ih := stAt_eq B k (by omega)
    have hs : B.take (64 * (k + 1)) = B.take (64 * k) ++ (B.drop (64 * k)).take 64 := by
      rw [show 64 * (k + 1) = 64 * k + 64 by omega, List.take_add]
    unfold stAt
    rw [hs, takesB_append, ih, takesB_block _ _ (by simp; omega)]
theorem stAt_succ (B : List Int) (k : Nat) (h : 64 * (k + 1) ≤ B.length) : stAt B (k + 1) = compr (stAt B k) (wordsOf ((B.drop (64 * k)).take 64)) := by
  have ih := stAt_eq B k (by omega)
  have hs : B.take (64 * (k + 1)) = B.take (64 * k) ++ (B.drop (64 * k)).take 64 := by
    rw [show 64 * (k + 1) = 64 * k + 64 by omega, List.take_add]
  conv => lhs; unfold stAt
  rw [hs, takesB_append, ih, takesB_block _ _ (by simp; omega)]
theorem stAt_all (B : List Int) (k : Nat) (h : 64 * k = B.length) : (takesB (ivS, []) B).1 = stAt B k := by
  unfold stAt; rw [h, List.take_length]

/-- the number of bits, its last j bytes laid down -/
def bitL (N : Int) (j : Nat) : List Int := List.replicate (8 - j) 0 ++ (be8 N).drop (8 - j)
theorem bitL_length (N : Int) {j : Nat} (h : j ≤ 8) : (bitL N j).length = 8 := by
  simp only [bitL, be8, List.length_append, List.length_replicate, List.length_drop, List.length_cons, List.length_nil]; omega
theorem bitL_set (N : Int) {j : Nat} (h : j < 8) : (bitL N j).set (7 - j) (N / 256 ^ j % 256) = bitL N (j + 1) := by
  have : j = 0 ∨ j = 1 ∨ j = 2 ∨ j = 3 ∨ j = 4 ∨ j = 5 ∨ j = 6 ∨ j = 7 := by omega
  rcases this with rfl | rfl | rfl | rfl | rfl | rfl | rfl | rfl <;> simp [bitL, be8, List.replicate]
theorem bitL_done (N : Int) {j : Nat} (h : j ≤ 8) (h0 : 0 ≤ N) (h1 : N < 18446744073709551616) (hz : N / 256 ^ j = 0) : bitL N j = be8 N := by
  have : j = 0 ∨ j = 1 ∨ j = 2 ∨ j = 3 ∨ j = 4 ∨ j = 5 ∨ j = 6 ∨ j = 7 ∨ j = 8 := by omega
  rcases this with rfl | rfl | rfl | rfl | rfl | rfl | rfl | rfl | rfl
  all_goals first | (simp [bitL, be8, List.replicate] at hz ⊢; omega) | (simp [bitL, be8, List.replicate] at hz ⊢; done) | (simp [bitL, be8, List.replicate]; done)

set_option maxHeartbeats 1000000 in
theorem refsum_ok (xs : List Int) (off len : Nat) (cap : Option Nat) (hol : off + len ≤ xs.length) (hsz : len ≤ 4294967296) (hcap : ∀ c, cap = some c → len ≤ c) :
    AC Try.prog 31 [.sl 0 off len cap] [⟨1, true, none, .ints .u8 xs⟩]
      (fun r hp' => r = .agg [.ints .u8 32 (shaL ((xs.drop off).take len))] ∧ hp' = [⟨1, true, none, .ints .u8 xs⟩]) := by
  refine AC.left (AC.body tokT Try.func31 rfl rfl rfl (by decide) (by rfl) ?_)
  obtain ⟨L, hL⟩ : ∃ L, (xs.drop off).take len = L := ⟨_, rfl⟩
  have hLl : L.length = len := by rw [← hL]; simp; omega
  rw [hL]
  obtain ⟨B, hB⟩ : ∃ B, L ++ padL len = B := ⟨_, rfl⟩
  have hpl : (padL len).length = 9 + (119 - len % 64) % 64 := by simp [padL, be8]; omega
  have hBl : B.length = len + 9 + (119 - len % 64) % 64 := by rw [← hB, List.length_append, hLl, hpl]; omega
  have hBd : ∀ k, k ≤ len → B.drop k = L.drop k ++ padL len := fun k hk => by rw [← hB, List.drop_append_of_le_length (by omega)]
  have hblk : ∀ i, 64 * (i + 1) ≤ len → (xs.drop (off + 64 * i)).take 64 = (B.drop (64 * i)).take 64 := fun i hi => by
    rw [hBd _ (by omega), List.take_append_of_le_length (by simp; omega), ← hL, List.drop_take, List.take_take, List.drop_drop]
    congr 1; omega
  refine AW.pre tokT (fun _ => true) ?_; (conv => whnf)
  refine AW.pre tokT (fun _ => true) ?_; (conv => whnf)
  refine AW.pre tokT (fun _ => true) ?_; (conv => whnf)
  refine AW.cutT (fun fr hp => ∃ cap', (∀ c, cap' = some c → len % 64 ≤ c) ∧ fr = [(0, .sl 0 off len cap), (2, .ptr 1 0 0 0), (3, .ptr 2 0 0 0), (4, .sl 0 (off + 64 * (len / 64)) (len % 64) cap')] ∧
    hp = [⟨1, true, none, .ints .u8 xs⟩, ⟨32, false, none, .var [.ints .u8 32 (List.replicate 32 0)]⟩, ⟨8, false, none, .var [.ints .u32 8 (stAt B (len / 64)).l]⟩]) ?_ ?_
  · refine AW.block ?_
    (refine AW.turnL [0, 1, 2] [(0, .sl 0 off len cap), (2, .ptr 1 0 0 0), (3, .ptr 2 0 0 0), (4, .sl 0 off len cap)] [⟨1, true, none, .ints .u8 xs⟩, ⟨32, false, none, .var [.ints .u8 32 (List.replicate 32 0)]⟩, ⟨8, false, none, .var [.ints .u32 8 ivS.l]⟩] (by rfl) (by rfl) (by rfl) (by (repeat' (first | exact True.intro | exact rfl | refine And.intro ?_ ?_ | (simp [AV.ren, AV.rens, AObj.ren, Ent.ren, AV.inn, AV.inns, AObj.inn, *]; done)))) (by (repeat' (first | exact True.intro | exact rfl | refine And.intro ?_ ?_ | (simp [AV.ren, AV.rens, AObj.ren, Ent.ren, AV.inn, AV.inns, AObj.inn, *]; done)))) ?_)
    refine AW.loop (fun q fr hp => ∃ i cap', q = len - i ∧ 64 * i ≤ len ∧ (∀ c, cap' = some c → len - 64 * i ≤ c) ∧ fr = [(0, .sl 0 off len cap), (2, .ptr 1 0 0 0), (3, .ptr 2 0 0 0), (4, .sl 0 (off + 64 * i) (len - 64 * i) cap')] ∧
      hp = [⟨1, true, none, .ints .u8 xs⟩, ⟨32, false, none, .var [.ints .u8 32 (List.replicate 32 0)]⟩, ⟨8, false, none, .var [.ints .u32 8 (stAt B i).l]⟩]) len ?_ ?_
    · exact ⟨0, cap, rfl, by omega, hcap, rfl, rfl⟩
    · rintro q fr hp ⟨i, cap', rfl, hi, hc', rfl, rfl⟩ -
      refine AW.post ?_
      refine ev_sound tokT (keep := fun _ => true) ?_
      (conv => whnf); (cases h64 : (decide ((↑(len - 64 * i) : Int) ≥ 64) : Bool) <;> (try simp only [beq_iff_eq, beq_eq_false_iff_ne, ne_eq, decide_eq_true_eq, decide_eq_false_iff_not, bne_iff_ne, bne_eq_false_iff_eq, Bool.not_eq_true, Bool.not_eq_false, gt_iff_lt, ge_iff_le] at h64) <;> (try (exfalso; omega)))
      case' false =>
        (conv => whnf)
        have e1 : len / 64 = i := by omega
        have e2 : len % 64 = len - 64 * i := by omega
        (refine Turned.of [0, 1, 2] [(0, .sl 0 off len cap), (2, .ptr 1 0 0 0), (3, .ptr 2 0 0 0), (4, .sl 0 (off + 64 * i) (len - 64 * i) cap')] [⟨1, true, none, .ints .u8 xs⟩, ⟨32, false, none, .var [.ints .u8 32 (List.replicate 32 0)]⟩, ⟨8, false, none, .var [.ints .u32 8 (stAt B i).l]⟩] (by rfl) (by rfl) (by rfl) (by (repeat' (first | exact True.intro | exact rfl | refine And.intro ?_ ?_ | (simp [AV.ren, AV.rens, AObj.ren, Ent.ren, AV.inn, AV.inns, AObj.inn, *]; done)))) (by (repeat' (first | exact True.intro | exact rfl | refine And.intro ?_ ?_ | (simp [AV.ren, AV.rens, AObj.ren, Ent.ren, AV.inn, AV.inns, AObj.inn, *]; done)))) ?_)
        exact ⟨cap', by rw [e2]; exact hc', by rw [e1, e2], by rw [e1]⟩
      have hi64 : 64 * (i + 1) ≤ len := by omega
      have hst := stAt_succ B i (by omega)
      rw [← hblk i hi64] at hst
      (conv => whnf)
      have fin : ∀ cap'', AC Try.prog 80 [.agg [.ints .u32 8 (stAt B i).l], .sl 0 (off + 64 * i + 0) (Int.toNat 64 - 0) cap''] [⟨1, true, none, .ints .u8 xs⟩] (fun r hp' => r = .agg [.ints .u32 8 (stAt B (i + 1)).l] ∧ hp' = [⟨1, true, none, .ints .u8 xs⟩]) := fun cap'' => by
        rw [hst]
        exact chunk_ok (stAt B i) xs (off + 64 * i) cap'' (by omega)
      cases cap' with
      | none =>
        refine AW.draw [(false, 0), (false, 1), (false, 2), (true, 3), (true, 4)] (keep := fun _ => true) mixed_ok' tokT (by kernel_rfl) (by kernel_rfl) ?_
        ((conv => whnf); (repeat (((refine Exists.intro _ (And.intro (by ((conv => whnf); (repeat ((refine And.intro (by first | exact rfl | omega) ?_); (conv => whnf))))) ?_)); (conv => whnf)))))
        refine AC.frame (fin none) [0] (by (repeat' (first | exact True.intro | exact rfl | refine And.intro ?_ ?_))) (by rfl) (by (repeat' (first | exact True.intro | refine And.intro ?_ ?_ | (simp [AV.ren, AV.rens, AObj.ren, Ent.ren, AV.inn, AV.inns, AObj.inn, *]; done)))) (by rfl) ?_
        rintro r0 hp0 ⟨rfl, rfl⟩
        ((conv => whnf); (repeat (first | ((with_reducible (refine And.intro (show Go.Aw.againsK _ _ _ _ _ from ?_) ?_)); (focus (repeat' (first | ((with_reducible (show Go.Aw.againsK _ _ _ _ _)); (conv => whnf)) | ((with_reducible (show Go.Aw.againK _ _ _ _ _)); (conv => whnf)) | (with_reducible (exact True.intro)) | (with_reducible (refine And.intro ?_ ?_)) | exact rfl))); (conv => whnf)) | ((refine And.intro (by omega) ?_); (conv => whnf)))))
        rw [show Int.toNat 64 = 64 from rfl, show off + 64 * i + 64 = off + 64 * (i + 1) by omega, show len - 64 * i - 64 = len - 64 * (i + 1) by omega]
        (refine Turned.of [0, 1, 2] [(0, .sl 0 off len cap), (2, .ptr 1 0 0 0), (3, .ptr 2 0 0 0), (4, .sl 0 (off + 64 * (i + 1)) (len - 64 * (i + 1)) none)] [⟨1, true, none, .ints .u8 xs⟩, ⟨32, false, none, .var [.ints .u8 32 (List.replicate 32 0)]⟩, ⟨8, false, none, .var [.ints .u32 8 (stAt B (i + 1)).l]⟩] (by rfl) (by rfl) (by rfl) (by (repeat' (first | exact True.intro | exact rfl | refine And.intro ?_ ?_ | (simp [AV.ren, AV.rens, AObj.ren, Ent.ren, AV.inn, AV.inns, AObj.inn, *]; done)))) (by (repeat' (first | exact True.intro | exact rfl | refine And.intro ?_ ?_ | (simp [AV.ren, AV.rens, AObj.ren, Ent.ren, AV.inn, AV.inns, AObj.inn, *]; done)))) ?_)
        exact ⟨len - (i + 1), by omega, i + 1, none, rfl, by omega, (fun c hc => by cases hc), rfl, rfl⟩
      | some c =>
        have hc := hc' c rfl
        refine AW.draw [(false, 0), (false, 1), (false, 2), (true, 3), (true, 4)] (keep := fun _ => true) mixed_ok' tokT (by kernel_rfl) (by kernel_rfl) ?_
        ((conv => whnf); (repeat (((refine Exists.intro _ (And.intro (by ((conv => whnf); (repeat ((refine And.intro (by first | exact rfl | omega) ?_); (conv => whnf))))) ?_)); (conv => whnf)))))
        refine AC.frame (fin (some (c - 0))) [0] (by (repeat' (first | exact True.intro | exact rfl | refine And.intro ?_ ?_))) (by rfl) (by (repeat' (first | exact True.intro | refine And.intro ?_ ?_ | (simp [AV.ren, AV.rens, AObj.ren, Ent.ren, AV.inn, AV.inns, AObj.inn, *]; done)))) (by rfl) ?_
        rintro r0 hp0 ⟨rfl, rfl⟩
        ((conv => whnf); (repeat (first | ((with_reducible (refine And.intro (show Go.Aw.againsK _ _ _ _ _ from ?_) ?_)); (focus (repeat' (first | ((with_reducible (show Go.Aw.againsK _ _ _ _ _)); (conv => whnf)) | ((with_reducible (show Go.Aw.againK _ _ _ _ _)); (conv => whnf)) | (with_reducible (exact True.intro)) | (with_reducible (refine And.intro ?_ ?_)) | exact rfl))); (conv => whnf)) | ((refine And.intro (by first | assumption | omega) ?_); (conv => whnf)))))
        rw [show Int.toNat 64 = 64 from rfl, show off + 64 * i + 64 = off + 64 * (i + 1) by omega, show len - 64 * i - 64 = len - 64 * (i + 1) by omega]
        (refine Turned.of [0, 1, 2] [(0, .sl 0 off len cap), (2, .ptr 1 0 0 0), (3, .ptr 2 0 0 0), (4, .sl 0 (off + 64 * (i + 1)) (len - 64 * (i + 1)) (some (c - 64)))] [⟨1, true, none, .ints .u8 xs⟩, ⟨32, false, none, .var [.ints .u8 32 (List.replicate 32 0)]⟩, ⟨8, false, none, .var [.ints .u32 8 (stAt B (i + 1)).l]⟩] (by rfl) (by rfl) (by rfl) (by (repeat' (first | exact True.intro | exact rfl | refine And.intro ?_ ?_ | (simp [AV.ren, AV.rens, AObj.ren, Ent.ren, AV.inn, AV.inns, AObj.inn, *]; done)))) (by (repeat' (first | exact True.intro | exact rfl | refine And.intro ?_ ?_ | (simp [AV.ren, AV.rens, AObj.ren, Ent.ren, AV.inn, AV.inns, AObj.inn, *]; done)))) ?_)
        exact ⟨len - (i + 1), by omega, i + 1, some (c - 64), rfl, by omega, (fun c' hc' => by cases hc'; omega), rfl, rfl⟩
  · rintro fr hp ⟨cap', hc', rfl, rfl⟩
    obtain ⟨s0, hs0⟩ : ∃ s0, stAt B (len / 64) = s0 := ⟨_, rfl⟩
    obtain ⟨rem, hrem⟩ : ∃ rem, len % 64 = rem := ⟨_, rfl⟩
    have hr64 : rem < 64 := by omega
    have hoff : off + 64 * (len / 64) + rem = off + len := by omega
    obtain ⟨of, hof⟩ : ∃ of, off + 64 * (len / 64) = of := ⟨_, rfl⟩
    rw [hof] at hoff
    rw [hs0, hrem, hof]
    obtain ⟨R, hR⟩ : ∃ R, (xs.drop of).take rem = R := ⟨_, rfl⟩
    have hRl : R.length = rem := by rw [← hR]; simp; omega
    obtain ⟨M, hM⟩ : ∃ M, (if 55 < rem then 128 else 64 : Nat) = M := ⟨_, rfl⟩
    have hMz : M = rem + 9 + (119 - rem) % 64 := by rw [← hM]; split <;> omega
    have hMc : M = 64 ∨ M = 128 := by rw [← hM]; split <;> simp
    have hz : ∀ n : Nat, Int.toNat ((n : Nat) : Int) = n := fun n => Int.toNat_natCast n
    refine AW.cutT (fun fr hp => fr = [(0, .sl 0 off len cap), (2, .ptr 1 0 0 0), (3, .ptr 2 0 0 0), (4, .sl 0 of rem cap'), (5, .sl 3 0 64 (some 64))] ∧
      hp = [⟨1, true, none, .ints .u8 xs⟩, ⟨32, false, none, .var [.ints .u8 32 (List.replicate 32 0)]⟩, ⟨8, false, none, .var [.ints .u32 8 s0.l]⟩, ⟨1, false, none, .ints .u8 (List.replicate 64 0)⟩]) ?_ ?_
    · refine ev_sound tokT (keep := fun _ => true) ?_
      ((conv => whnf); (repeat (((refine And.intro (by first | omega | (simp [roomMost, *]; done)) ?_); (conv => whnf)))))
      (refine Turned.of [0, 1, 2, 3] [(0, .sl 0 off len cap), (2, .ptr 1 0 0 0), (3, .ptr 2 0 0 0), (4, .sl 0 of rem cap'), (5, .sl 3 0 64 (some 64))] [⟨1, true, none, .ints .u8 xs⟩, ⟨32, false, none, .var [.ints .u8 32 (List.replicate 32 0)]⟩, ⟨8, false, none, .var [.ints .u32 8 s0.l]⟩, ⟨1, false, none, .ints .u8 (List.replicate 64 0)⟩] (by rfl) (by rfl) (by rfl) (by (repeat' (first | exact True.intro | exact rfl | refine And.intro ?_ ?_ | (simp [AV.ren, AV.rens, AObj.ren, Ent.ren, AV.inn, AV.inns, AObj.inn, *]; done)))) (by (repeat' (first | exact True.intro | exact rfl | refine And.intro ?_ ?_ | (simp [AV.ren, AV.rens, AObj.ren, Ent.ren, AV.inn, AV.inns, AObj.inn, *]; done)))) ?_)
      exact ⟨rfl, rfl⟩
    rintro fr hp ⟨rfl, rfl⟩
    refine AW.cutT (fun fr hp => fr = [(0, .sl 0 off len cap), (2, .ptr 1 0 0 0), (3, .ptr 2 0 0 0), (4, .sl 0 of rem cap'), (5, .sl 3 0 M (some M))] ∧
      hp = [⟨1, true, none, .ints .u8 xs⟩, ⟨32, false, none, .var [.ints .u8 32 (List.replicate 32 0)]⟩, ⟨8, false, none, .var [.ints .u32 8 s0.l]⟩, ⟨1, false, none, .ints .u8 (List.replicate M 0)⟩]) ?_ ?_
    · refine AW.pre tokT (fun _ => true) ?_
      (conv => whnf)
      refine ev_sound tokT (keep := fun _ => true) ?_
      (conv => whnf); (cases h55 : (decide ((↑rem : Int) > 55) : Bool) <;> (try simp only [beq_iff_eq, beq_eq_false_iff_ne, ne_eq, decide_eq_true_eq, decide_eq_false_iff_not, bne_iff_ne, bne_eq_false_iff_eq, Bool.not_eq_true, Bool.not_eq_false, gt_iff_lt, ge_iff_le] at h55) <;> (try (exfalso; omega)))
      case' false =>
        rw [if_neg (by omega)] at hM
        subst hM
        clear hMz hMc
        (conv => whnf)
        (refine Turned.of [0, 1, 2, 3] [(0, .sl 0 off len cap), (2, .ptr 1 0 0 0), (3, .ptr 2 0 0 0), (4, .sl 0 of rem cap'), (5, .sl 3 0 64 (some 64))] [⟨1, true, none, .ints .u8 xs⟩, ⟨32, false, none, .var [.ints .u8 32 (List.replicate 32 0)]⟩, ⟨8, false, none, .var [.ints .u32 8 s0.l]⟩, ⟨1, false, none, .ints .u8 (List.replicate 64 0)⟩] (by rfl) (by rfl) (by rfl) (by (repeat' (first | exact True.intro | exact rfl | refine And.intro ?_ ?_ | (simp [AV.ren, AV.rens, AObj.ren, Ent.ren, AV.inn, AV.inns, AObj.inn, *]; done)))) (by (repeat' (first | exact True.intro | exact rfl | refine And.intro ?_ ?_ | (simp [AV.ren, AV.rens, AObj.ren, Ent.ren, AV.inn, AV.inns, AObj.inn, *]; done)))) ?_)
        exact ⟨rfl, rfl⟩
      rw [if_pos (by omega)] at hM
      subst hM
      clear hMz hMc
      ((conv => whnf); (repeat (((refine And.intro (by first | omega | (simp [roomMost, *]; done)) ?_); (conv => whnf)))))
      rw [show Int.toNat 128 = 128 from rfl]
      (refine Turned.of [0, 1, 2, 4] [(0, .sl 0 off len cap), (2, .ptr 1 0 0 0), (3, .ptr 2 0 0 0), (4, .sl 0 of rem cap'), (5, .sl 3 0 128 (some 128))] [⟨1, true, none, .ints .u8 xs⟩, ⟨32, false, none, .var [.ints .u8 32 (List.replicate 32 0)]⟩, ⟨8, false, none, .var [.ints .u32 8 s0.l]⟩, ⟨1, false, none, .ints .u8 (List.replicate 128 0)⟩] (by rfl) (by rfl) (by rfl) (by (repeat' (first | exact True.intro | exact rfl | refine And.intro ?_ ?_ | (simp [AV.ren, AV.rens, AObj.ren, Ent.ren, AV.inn, AV.inns, AObj.inn, *]; done)))) (by (repeat' (first | exact True.intro | exact rfl | refine And.intro ?_ ?_ | (simp [AV.ren, AV.rens, AObj.ren, Ent.ren, AV.inn, AV.inns, AObj.inn, *]; done)))) ?_)
      exact ⟨rfl, rfl⟩
    · rintro fr hp ⟨rfl, rfl⟩
      refine AW.pre tokT (fun _ => true) ?_; ((conv => whnf); (repeat (((refine And.intro (by first | omega | (simp; done)) ?_); (conv => whnf)))))
      rw [hR, hRl, Nat.min_eq_left (show rem ≤ M by omega)]
      have hC0 : List.take 0 (List.replicate M (0 : Int)) ++ List.take rem R ++ List.drop (0 + rem) (List.replicate M 0) = R ++ List.replicate (M - rem) 0 := by
        rw [List.take_zero, List.nil_append, List.take_of_length_le (by omega), Nat.zero_add, List.drop_replicate]
      rw [hC0]
      (refine AW.turnL [0, 1, 2, 3] [(0, .sl 0 off len cap), (2, .ptr 1 0 0 0), (3, .ptr 2 0 0 0), (4, .sl 0 of rem cap'), (5, .sl 3 0 M (some M))] [⟨1, true, none, .ints .u8 xs⟩, ⟨32, false, none, .var [.ints .u8 32 (List.replicate 32 0)]⟩, ⟨8, false, none, .var [.ints .u32 8 s0.l]⟩, ⟨1, false, none, .ints .u8 (R ++ List.replicate (M - rem) 0)⟩] (by rfl) (by rfl) (by rfl) (by (repeat' (first | exact True.intro | exact rfl | refine And.intro ?_ ?_ | (simp [AV.ren, AV.rens, AObj.ren, Ent.ren, AV.inn, AV.inns, AObj.inn, *]; done)))) (by (repeat' (first | exact True.intro | exact rfl | refine And.intro ?_ ?_ | (simp [AV.ren, AV.rens, AObj.ren, Ent.ren, AV.inn, AV.inns, AObj.inn, *]; done)))) ?_)
      obtain ⟨N, hN⟩ : ∃ N : Int, 8 * (len : Int) = N := ⟨_, rfl⟩
      have hN0 : 0 ≤ N := by omega
      have hN1 : N < 18446744073709551616 := by omega
      obtain ⟨z, hzz⟩ : ∃ z, (119 - rem) % 64 = z := ⟨_, rfl⟩
      have hMr : M - rem = 1 + z + 8 := by omega
      have hC1 : (R ++ List.replicate (M - rem) 0).set rem 128 = R ++ 128 :: List.replicate z 0 ++ bitL N 0 := by
        rw [List.set_append_right _ _ (by omega), show rem - R.length = 0 by omega, hMr, show 1 + z + 8 = (z + 8) + 1 by omega, List.replicate_succ, List.set_cons_zero, List.append_assoc]
        congr 1
        rw [List.cons_append]
        congr 1
        rw [← List.replicate_append_replicate]; rfl
      have hlenM : (R ++ List.replicate (M - rem) (0 : Int)).length = M := by simp; omega
      refine AW.pre tokT (fun _ => true) ?_; ((conv => whnf); (repeat (((refine And.intro (by omega) ?_); (conv => whnf)))))
      rw [show 0 + (rem : Int).toNat = rem by simp, hC1]
      refine AW.pre tokT (fun _ => true) ?_; (conv => whnf)
      rw [IntWalk.i64_in _ (by omega), show (len : Int) * 8 = N by omega]
      refine AW.cutT (fun fr hp => fr = [(0, .sl 0 off len cap), (2, .ptr 1 0 0 0), (3, .ptr 2 0 0 0), (5, .sl 3 0 M (some M))] ∧
        hp = [⟨1, true, none, .ints .u8 xs⟩, ⟨32, false, none, .var [.ints .u8 32 (List.replicate 32 0)]⟩, ⟨8, false, none, .var [.ints .u32 8 s0.l]⟩, ⟨1, false, none, .ints .u8 (R ++ 128 :: List.replicate z 0 ++ be8 N)⟩]) ?_ ?_
      · refine AW.pre tokT (fun _ => true) ?_; (conv => whnf)
        rw [IntWalk.i64_in _ (by omega)]
        refine AW.block ?_
        (refine AW.turnL [0, 1, 2, 3] [(0, .sl 0 off len cap), (2, .ptr 1 0 0 0), (3, .ptr 2 0 0 0), (5, .sl 3 0 M (some M)), (6, .int .i64 N), (7, .int .i64 ((M : Int) - 1))] [⟨1, true, none, .ints .u8 xs⟩, ⟨32, false, none, .var [.ints .u8 32 (List.replicate 32 0)]⟩, ⟨8, false, none, .var [.ints .u32 8 s0.l]⟩, ⟨1, false, none, .ints .u8 (R ++ 128 :: List.replicate z 0 ++ bitL N 0)⟩] (by rfl) (by rfl) (by rfl) (by (repeat' (first | exact True.intro | exact rfl | refine And.intro ?_ ?_ | (simp [AV.ren, AV.rens, AObj.ren, Ent.ren, AV.inn, AV.inns, AObj.inn, *]; done)))) (by (repeat' (first | exact True.intro | exact rfl | refine And.intro ?_ ?_ | (simp [AV.ren, AV.rens, AObj.ren, Ent.ren, AV.inn, AV.inns, AObj.inn, *]; done)))) ?_)
        refine AW.loop (fun q fr hp => ∃ j, q = 8 - j ∧ j ≤ 8 ∧ fr = [(0, .sl 0 off len cap), (2, .ptr 1 0 0 0), (3, .ptr 2 0 0 0), (5, .sl 3 0 M (some M)), (6, .int .i64 (N / 256 ^ j)), (7, .int .i64 ((M : Int) - 1 - j))] ∧
          hp = [⟨1, true, none, .ints .u8 xs⟩, ⟨32, false, none, .var [.ints .u8 32 (List.replicate 32 0)]⟩, ⟨8, false, none, .var [.ints .u32 8 s0.l]⟩, ⟨1, false, none, .ints .u8 (R ++ 128 :: List.replicate z 0 ++ bitL N j)⟩]) 8 ?_ ?_
        · exact ⟨0, rfl, by omega, by simp, rfl⟩
        · rintro q fr hp ⟨j, rfl, hj, rfl, rfl⟩ -
          have hNj0 : 0 ≤ N / 256 ^ j := Int.ediv_nonneg hN0 (Int.le_of_lt (Int.pow_pos (by omega)))
          refine AW.post ?_
          refine ev_sound tokT (keep := fun _ => true) ?_
          (conv => whnf); (cases hpos : (decide (N / 256 ^ j > 0) : Bool) <;> (try simp only [beq_iff_eq, beq_eq_false_iff_ne, ne_eq, decide_eq_true_eq, decide_eq_false_iff_not, bne_iff_ne, bne_eq_false_iff_eq, Bool.not_eq_true, Bool.not_eq_false, gt_iff_lt, ge_iff_le] at hpos) <;> (try (exfalso; omega)))
          case' false =>
            (conv => whnf)
            rw [bitL_done N hj hN0 hN1 (by omega)]
            (refine Turned.of [0, 1, 2, 3] [(0, .sl 0 off len cap), (2, .ptr 1 0 0 0), (3, .ptr 2 0 0 0), (5, .sl 3 0 M (some M))] [⟨1, true, none, .ints .u8 xs⟩, ⟨32, false, none, .var [.ints .u8 32 (List.replicate 32 0)]⟩, ⟨8, false, none, .var [.ints .u32 8 s0.l]⟩, ⟨1, false, none, .ints .u8 (R ++ 128 :: List.replicate z 0 ++ be8 N)⟩] (by rfl) (by rfl) (by rfl) (by (repeat' (first | exact True.intro | exact rfl | refine And.intro ?_ ?_ | (simp [AV.ren, AV.rens, AObj.ren, Ent.ren, AV.inn, AV.inns, AObj.inn, *]; done)))) (by (repeat' (first | exact True.intro | exact rfl | refine And.intro ?_ ?_ | (simp [AV.ren, AV.rens, AObj.ren, Ent.ren, AV.inn, AV.inns, AObj.inn, *]; done)))) ?_)
            exact ⟨rfl, rfl⟩
          have hj8 : j < 8 := by
            rcases Nat.lt_or_ge j 8 with g | g
            · exact g
            · have : j = 8 := by omega
              subst this
              have : N / 256 ^ 8 = 0 := Int.ediv_eq_zero_of_lt hN0 (by simpa using hN1)
              omega
          have hset := bitL_set N hj8
          have hlj : (R ++ 128 :: List.replicate z 0 ++ bitL N j).length = M := by simp [bitL_length N hj]; omega
          have e1 : ((M : Int) - 1 - j).toNat = M - 1 - j := by omega
          have hC2 : (R ++ 128 :: List.replicate z 0 ++ bitL N j).set (M - 1 - j) (N / 256 ^ j % 256) = R ++ 128 :: List.replicate z 0 ++ bitL N (j + 1) := by
            rw [List.set_append_right _ _ (by simp; omega), ← hset]
            congr 2
            simp; omega
          have hsh : shrI .i64 (N / 256 ^ j) 8 = N / 256 ^ (j + 1) := by
            unfold shrI
            rw [show min (Int.toNat 8) IntKind.i64.bits = 8 from rfl, Int.fdiv_eq_ediv_of_nonneg _ (by decide), show (256 : Int) ^ (j + 1) = 256 ^ j * 256 from Int.pow_succ _ _, ← Int.ediv_ediv_of_nonneg (Int.le_of_lt (Int.pow_pos (by omega)))]
            rfl
          ((conv => whnf); (repeat (((refine And.intro (by omega) ?_); (conv => whnf)))))
          rw [hsh, e1, IntKind.wrap_u8, Nat.zero_add, hC2, IntWalk.i64_in _ (by omega)]
          (refine Turned.of [0, 1, 2, 3] [(0, .sl 0 off len cap), (2, .ptr 1 0 0 0), (3, .ptr 2 0 0 0), (5, .sl 3 0 M (some M)), (6, .int .i64 (N / 256 ^ (j + 1))), (7, .int .i64 ((M : Int) - 1 - j - 1))] [⟨1, true, none, .ints .u8 xs⟩, ⟨32, false, none, .var [.ints .u8 32 (List.replicate 32 0)]⟩, ⟨8, false, none, .var [.ints .u32 8 s0.l]⟩, ⟨1, false, none, .ints .u8 (R ++ 128 :: List.replicate z 0 ++ bitL N (j + 1))⟩] (by rfl) (by rfl) (by rfl) (by (repeat' (first | exact True.intro | exact rfl | refine And.intro ?_ ?_ | (simp [AV.ren, AV.rens, AObj.ren, Ent.ren, AV.inn, AV.inns, AObj.inn, *]; done)))) (by (repeat' (first | exact True.intro | exact rfl | refine And.intro ?_ ?_ | (simp [AV.ren, AV.rens, AObj.ren, Ent.ren, AV.inn, AV.inns, AObj.inn, *]; done)))) ?_)
          refine ⟨8 - (j + 1), by omega, j + 1, rfl, by omega, ?_, rfl⟩
          rw [show (M : Int) - 1 - j - 1 = (M : Int) - 1 - ((j + 1 : Nat) : Int) by omega]
      · rintro fr hp ⟨rfl, rfl⟩
        obtain ⟨C, hC⟩ : ∃ C, R ++ 128 :: List.replicate z 0 ++ be8 N = C := ⟨_, rfl⟩
        have hCl : C.length = M := by rw [← hC]; simp [be8]; omega
        have hCB : B.drop (64 * (len / 64)) = C := by
          rw [hBd _ (by omega), ← hC]
          have : L.drop (64 * (len / 64)) = R := by
            rw [← hL, ← hR, List.drop_take, List.drop_drop, hof]
            congr 1; omega
          rw [this]
          unfold padL
          rw [show len % 64 = rem from hrem, hzz, hN]
          simp
        rw [hC]
        -- the last blocks
        obtain ⟨n0, hn0⟩ : ∃ n0, len / 64 = n0 := ⟨_, rfl⟩
        have hMn : 64 * (M / 64) = M := by omega
        have hBM : B.length = 64 * n0 + M := by omega
        refine AW.cutT (fun fr hp => fr = [(2, .ptr 1 0 0 0), (3, .ptr 2 0 0 0)] ∧
          hp = [⟨1, true, none, .ints .u8 xs⟩, ⟨32, false, none, .var [.ints .u8 32 (List.replicate 32 0)]⟩, ⟨8, false, none, .var [.ints .u32 8 (stAt B (n0 + M / 64)).l]⟩]) ?_ ?_
        · refine AW.block ?_
          refine AW.loop (fun q fr hp => ∃ k, q = M - k ∧ 64 * k ≤ M ∧ fr = [(0, .sl 0 off len cap), (2, .ptr 1 0 0 0), (3, .ptr 2 0 0 0), (5, .sl 3 (64 * k) (M - 64 * k) (some (M - 64 * k)))] ∧
            hp = [⟨1, true, none, .ints .u8 xs⟩, ⟨32, false, none, .var [.ints .u8 32 (List.replicate 32 0)]⟩, ⟨8, false, none, .var [.ints .u32 8 (stAt B (n0 + k)).l]⟩, ⟨1, false, none, .ints .u8 C⟩]) M ?_ ?_
          · exact ⟨0, rfl, by omega, rfl, by rw [Nat.add_zero, ← hs0, hn0]⟩
          · rintro q fr hp ⟨k, rfl, hk, rfl, rfl⟩ -
            refine AW.post ?_
            refine ev_sound tokT (keep := fun _ => true) ?_
            (conv => whnf); (cases hpos : (decide ((↑(M - 64 * k) : Int) > 0) : Bool) <;> (try simp only [beq_iff_eq, beq_eq_false_iff_ne, ne_eq, decide_eq_true_eq, decide_eq_false_iff_not, bne_iff_ne, bne_eq_false_iff_eq, Bool.not_eq_true, Bool.not_eq_false, gt_iff_lt, ge_iff_le] at hpos) <;> (try (exfalso; omega)))
            case' false =>
              (conv => whnf)
              have : k = M / 64 := by omega
              subst this
              (refine Turned.of [0, 1, 2] [(2, .ptr 1 0 0 0), (3, .ptr 2 0 0 0)] [⟨1, true, none, .ints .u8 xs⟩, ⟨32, false, none, .var [.ints .u8 32 (List.replicate 32 0)]⟩, ⟨8, false, none, .var [.ints .u32 8 (stAt B (n0 + M / 64)).l]⟩] (by rfl) (by rfl) (by rfl) (by (repeat' (first | exact True.intro | exact rfl | refine And.intro ?_ ?_ | (simp [AV.ren, AV.rens, AObj.ren, Ent.ren, AV.inn, AV.inns, AObj.inn, *]; done)))) (by (repeat' (first | exact True.intro | exact rfl | refine And.intro ?_ ?_ | (simp [AV.ren, AV.rens, AObj.ren, Ent.ren, AV.inn, AV.inns, AObj.inn, *]; done)))) ?_)
              exact ⟨rfl, rfl⟩
            have hk64 : 64 * (k + 1) ≤ M := by omega
            have hst := stAt_succ B (n0 + k) (by omega)
            rw [show B.drop (64 * (n0 + k)) = C.drop (64 * k) by rw [← hCB, List.drop_drop, hn0]; congr 1; omega] at hst
            have fin : AC Try.prog 80 [.agg [.ints .u32 8 (stAt B (n0 + k)).l], .sl 0 (64 * k + 0) (Int.toNat 64 - 0) (some (M - 64 * k - 0))] [⟨1, true, none, .ints .u8 C⟩] (fun r hp' => r = .agg [.ints .u32 8 (stAt B (n0 + (k + 1))).l] ∧ hp' = [⟨1, true, none, .ints .u8 C⟩]) := by
              rw [← Nat.add_assoc, hst]
              exact chunk_ok (stAt B (n0 + k)) C (64 * k) _ (by omega)
            (conv => whnf)
            refine AW.draw [(false, 0), (false, 1), (false, 2), (true, 3), (true, 4)] (keep := fun _ => true) mixed_ok' tokT (by kernel_rfl) (by kernel_rfl) ?_
            ((conv => whnf); (repeat (((refine Exists.intro _ (And.intro (by ((conv => whnf); (repeat ((refine And.intro (by first | exact rfl | omega) ?_); (conv => whnf))))) ?_)); (conv => whnf)))))
            refine AC.frame fin [3] (by (repeat' (first | exact True.intro | exact rfl | refine And.intro ?_ ?_))) (by rfl) (by (repeat' (first | exact True.intro | refine And.intro ?_ ?_ | (simp [AV.ren, AV.rens, AObj.ren, Ent.ren, AV.inn, AV.inns, AObj.inn, *]; done)))) (by rfl) ?_
            rintro r0 hp0 ⟨rfl, rfl⟩
            ((conv => whnf); (repeat (first | ((with_reducible (refine And.intro (show Go.Aw.againsK _ _ _ _ _ from ?_) ?_)); (focus (repeat' (first | ((with_reducible (show Go.Aw.againsK _ _ _ _ _)); (conv => whnf)) | ((with_reducible (show Go.Aw.againK _ _ _ _ _)); (conv => whnf)) | (with_reducible (exact True.intro)) | (with_reducible (refine And.intro ?_ ?_)) | exact rfl))); (conv => whnf)) | ((refine And.intro (by omega) ?_); (conv => whnf)))))
            rw [show Int.toNat 64 = 64 from rfl, show 64 * k + 64 = 64 * (k + 1) by omega, show M - 64 * k - 64 = M - 64 * (k + 1) by omega]
            (refine Turned.of [0, 1, 2, 3] [(0, .sl 0 off len cap), (2, .ptr 1 0 0 0), (3, .ptr 2 0 0 0), (5, .sl 3 (64 * (k + 1)) (M - 64 * (k + 1)) (some (M - 64 * (k + 1))))] [⟨1, true, none, .ints .u8 xs⟩, ⟨32, false, none, .var [.ints .u8 32 (List.replicate 32 0)]⟩, ⟨8, false, none, .var [.ints .u32 8 (stAt B (n0 + (k + 1))).l]⟩, ⟨1, false, none, .ints .u8 C⟩] (by rfl) (by rfl) (by rfl) (by (repeat' (first | exact True.intro | exact rfl | refine And.intro ?_ ?_ | (simp [AV.ren, AV.rens, AObj.ren, Ent.ren, AV.inn, AV.inns, AObj.inn, *]; done)))) (by (repeat' (first | exact True.intro | exact rfl | refine And.intro ?_ ?_ | (simp [AV.ren, AV.rens, AObj.ren, Ent.ren, AV.inn, AV.inns, AObj.inn, *]; done)))) ?_)
            exact ⟨M - (k + 1), by omega, k + 1, rfl, by omega, rfl, rfl⟩
        · rintro fr hp ⟨rfl, rfl⟩
          have hall := stAt_all B (n0 + M / 64) (by omega)
          obtain ⟨s, hs⟩ : ∃ s, stAt B (n0 + M / 64) = s := ⟨_, rfl⟩
          have hsha : shaL L = outS s := by
            unfold shaL
            rw [hLl, hB, hall, hs]
          rw [hs, hsha]
          refine AW.pre tokT (fun _ => true) ?_; (conv => whnf)
          refine AW.cutT (fun fr hp => fr = [(2, .ptr 1 0 0 0), (8, .ptr 2 0 0 0)] ∧ hp = [⟨1, true, none, .ints .u8 xs⟩, ⟨32, false, none, .var [.ints .u8 32 (List.replicate 32 0)]⟩, ⟨32, false, none, .var [.ints .u8 32 (outS s)]⟩]) ?_ ?_
          · refine AW.pre tokT (fun _ => true) ?_; (conv => whnf)
            refine AW.block ?_
            (refine AW.turnL [0, 1, 2, 3] [(2, .ptr 1 0 0 0), (3, .ptr 2 0 0 0), (8, .ptr 3 0 0 0), (9, .int .i64 0)] [⟨1, true, none, .ints .u8 xs⟩, ⟨32, false, none, .var [.ints .u8 32 (List.replicate 32 0)]⟩, ⟨8, false, none, .var [.ints .u32 8 s.l]⟩, ⟨32, false, none, .var [.ints .u8 32 (List.replicate 32 0)]⟩] (by rfl) (by rfl) (by rfl) (by (repeat' (first | exact True.intro | exact rfl | refine And.intro ?_ ?_ | (simp [AV.ren, AV.rens, AObj.ren, Ent.ren, AV.inn, AV.inns, AObj.inn, *]; done)))) (by (repeat' (first | exact True.intro | exact rfl | refine And.intro ?_ ?_ | (simp [AV.ren, AV.rens, AObj.ren, Ent.ren, AV.inn, AV.inns, AObj.inn, *]; done)))) ?_)
            refine AW.loop (fun q fr hp => ∃ j, q = 32 - j ∧ j ≤ 32 ∧ fr = [(2, .ptr 1 0 0 0), (3, .ptr 2 0 0 0), (8, .ptr 3 0 0 0), (9, .int .i64 j)] ∧
              hp = [⟨1, true, none, .ints .u8 xs⟩, ⟨32, false, none, .var [.ints .u8 32 (List.replicate 32 0)]⟩, ⟨8, false, none, .var [.ints .u32 8 s.l]⟩, ⟨32, false, none, .var [.ints .u8 32 (outI s j)]⟩]) 32 ?_ ?_
            · exact ⟨0, rfl, by omega, rfl, rfl⟩
            · rintro q fr hp ⟨j, rfl, hj, rfl, rfl⟩ -
              refine AW.post ?_
              refine ev_sound tokT (keep := fun _ => true) ?_
              (conv => whnf); (cases hlt : (decide ((↑j : Int) < 32) : Bool) <;> (try simp only [beq_iff_eq, beq_eq_false_iff_ne, ne_eq, decide_eq_true_eq, decide_eq_false_iff_not, bne_iff_ne, bne_eq_false_iff_eq, Bool.not_eq_true, Bool.not_eq_false, gt_iff_lt, ge_iff_le] at hlt) <;> (try (exfalso; omega)))
              case' false =>
                (conv => whnf)
                have : j = 32 := by omega
                subst this
                (refine Turned.of [0, 1, 3] [(2, .ptr 1 0 0 0), (8, .ptr 2 0 0 0)] [⟨1, true, none, .ints .u8 xs⟩, ⟨32, false, none, .var [.ints .u8 32 (List.replicate 32 0)]⟩, ⟨32, false, none, .var [.ints .u8 32 (outI s 32)]⟩] (by rfl) (by rfl) (by rfl) (by (repeat' (first | exact True.intro | exact rfl | refine And.intro ?_ ?_ | (simp [AV.ren, AV.rens, AObj.ren, Ent.ren, AV.inn, AV.inns, AObj.inn, *]; done)))) (by (repeat' (first | exact True.intro | exact rfl | refine And.intro ?_ ?_ | (simp [AV.ren, AV.rens, AObj.ren, Ent.ren, AV.inn, AV.inns, AObj.inn, *]; done)))) ?_)
                refine ⟨rfl, ?_⟩
                unfold outI
                rw [List.take_of_length_le (by rw [outS_length]; omega)]; simp
              have hj32 : j < 32 := by omega
              have hl := l_get s hj32
              have ho := out_get s hj32
              have hset := outI_set s hj32
              have hq : IntKind.i64.wrap ((j : Int).tdiv 4) = ((j / 4 : Nat) : Int) := by
                rw [Int.tdiv_eq_ediv_of_nonneg (by omega), IntWalk.i64_in _ (by omega)]; omega
              have hr : (j : Int).tmod 4 = ((j % 4 : Nat) : Int) := by
                rw [Int.tmod_eq_emod_of_nonneg (by omega)]; omega
              have hs' : IntKind.i64.wrap (24 - IntKind.i64.wrap (8 * ((j % 4 : Nat) : Int))) = ((24 - 8 * (j % 4) : Nat) : Int) := by
                rw [IntWalk.i64_in (8 * _) (by omega), IntWalk.i64_in _ (by omega)]; omega
              have hs'' : 0 ≤ IntKind.i64.wrap (24 - IntKind.i64.wrap (8 * (j : Int).tmod 4)) := by rw [hr, hs']; omega
              ((conv => whnf); (repeat (((refine And.intro (by first | assumption | omega) ?_); (conv => whnf)))))
              rw [hq]
              (conv => whnf)
              rw [hr, hs', show (((j / 4 : Nat) : Int)).toNat = j / 4 from Int.toNat_natCast _, hl]
              (conv => whnf)
              rw [w_shr _ _ (by omega), ho, show (j : Int).toNat = j from Int.toNat_natCast _]
              rw [hset]
              rw [IntWalk.i64_in _ (by omega)]
              (refine Turned.of [0, 1, 2, 3] [(2, .ptr 1 0 0 0), (3, .ptr 2 0 0 0), (8, .ptr 3 0 0 0), (9, .int .i64 ((j + 1 : Nat) : Int))] [⟨1, true, none, .ints .u8 xs⟩, ⟨32, false, none, .var [.ints .u8 32 (List.replicate 32 0)]⟩, ⟨8, false, none, .var [.ints .u32 8 s.l]⟩, ⟨32, false, none, .var [.ints .u8 32 (outI s (j + 1))]⟩] (by rfl) (by rfl) (by rfl) (by (repeat' (first | exact True.intro | exact rfl | refine And.intro ?_ ?_ | (simp [AV.ren, AV.rens, AObj.ren, Ent.ren, AV.inn, AV.inns, AObj.inn, *]; done)))) (by (repeat' (first | exact True.intro | exact rfl | refine And.intro ?_ ?_ | (simp [AV.ren, AV.rens, AObj.ren, Ent.ren, AV.inn, AV.inns, AObj.inn, *]; done)))) ?_)
              exact ⟨32 - (j + 1), by omega, j + 1, rfl, by omega, rfl, rfl⟩
          · rintro fr hp ⟨rfl, rfl⟩
            refine ev_sound tokT (keep := fun _ => true) ?_
            (conv => whnf)
            (refine Left.of [0] (.agg [.ints .u8 32 (outS s)]) [⟨1, true, none, .ints .u8 xs⟩] (by rfl) (by rfl) (by rfl) (by (repeat' (first | exact True.intro | exact rfl | refine And.intro ?_ ?_))) (by rfl) (by (repeat' (first | exact True.intro | exact rfl | refine And.intro ?_ ?_))) ?_)
            exact ⟨rfl, rfl⟩
end Go.Aw
