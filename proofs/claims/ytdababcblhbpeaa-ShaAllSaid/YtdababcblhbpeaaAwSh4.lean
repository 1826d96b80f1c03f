/-
  AwSh4: sha's begin, take, end, Sum. Own work.
-/
import Derived.Test.YtdababcblhbpeaaAwSh3
set_option linter.unusedVariables false
set_option linter.unusedSimpArgs false
set_option maxRecDepth 20000
open Go.Proofs
namespace Go.Aw

/-- a summer: what it took in -/
def sumE (x : St × List Int) (n : Int) : Ent := ⟨74, false, none, .var [.ints .u32 8 x.1.l, .ints .u32 64 (wsI (wordsOf x.2) 0), .int .i64 (x.2.length : Int), .int .u64 n]⟩

theorem begin_ok : AC Try.prog 77 [] [] (fun r hp' => r = .ptr 0 0 0 0 ∧ hp' = [sumE (ivS, []) 0]) := by
  refine AC.left (AC.body tokT Try.func77 rfl rfl rfl (by decide) (by rfl) ?_)
  refine ev_sound tokT (keep := fun _ => true) ?_
  (conv => whnf)
  (refine Left.of [0] (.ptr 0 0 0 0) [sumE (ivS, []) 0] (by rfl) (by rfl) (by rfl) (by (repeat' (first | exact True.intro | exact rfl | refine And.intro ?_ ?_ | (simp [AV.ren, AV.rens, AObj.ren, Ent.ren, AV.inn, AV.inns, AObj.inn, *]; done)))) (by rfl) (by (repeat' (first | exact True.intro | exact rfl | refine And.intro ?_ ?_ | (simp [AV.ren, AV.rens, AObj.ren, Ent.ren, AV.inn, AV.inns, AObj.inn, *]; done)))) ?_)
  exact ⟨rfl, rfl⟩

theorem wsI_more (p : List Int) (c : Int) (h : p.length < 64) : (wsI (wordsOf p) 0).set (p.length / 4) (wI ((wordsOf p).getD (p.length / 4) 0 ||| bW c <<< (24 - 8 * (p.length % 4)))) = wsI (wordsOf (p ++ [c])) 0 := by
  rw [wordsOf_more p c h]
  have e : ∀ q, wsI q 0 = q.map wI ++ List.replicate 48 0 := fun q => rfl
  rw [e, e]
  rw [List.set_append_left _ _ (by simp [wordsOf_length]; omega), List.map_set]

theorem wsI_nil : wsI (wordsOf []) 0 = List.replicate 64 0 := by rw [wordsOf_nil]; rfl
theorem sumE_nil (s : St) (n : Int) : sumE (s, []) n = ⟨74, false, none, .var [.ints .u32 8 s.l, .ints .u32 64 (List.replicate 64 0), .int .i64 0, .int .u64 n]⟩ := by
  unfold sumE; rw [wsI_nil]; rfl

theorem take_ok (x : St × List Int) (c n : Int) (hx : x.2.length < 64) :
    AC Try.prog 78 [.ptr 0 0 0 0, .int .u8 c] [sumE x n] (fun r hp' => r = .tup [] ∧ hp' = [sumE (takeB x c) n]) := by
  obtain ⟨s, p⟩ := x
  simp only at hx
  have hq : IntKind.i64.wrap ((p.length : Int).tdiv 4) = ((p.length / 4 : Nat) : Int) := by
    rw [Int.tdiv_eq_ediv_of_nonneg (by omega), IntWalk.i64_in _ (by omega)]; omega
  have hr : (p.length : Int).tmod 4 = ((p.length % 4 : Nat) : Int) := by
    rw [Int.tmod_eq_emod_of_nonneg (by omega)]; omega
  have hs : IntKind.i64.wrap (24 - IntKind.i64.wrap (8 * ((p.length % 4 : Nat) : Int))) = ((24 - 8 * (p.length % 4) : Nat) : Int) := by
    rw [IntWalk.i64_in (8 * _) (by omega), IntWalk.i64_in _ (by omega)]; omega
  have hget : (wsI (wordsOf p) 0).getD (p.length / 4) 0 = wI ((wordsOf p).getD (p.length / 4) 0) := by
    have h48 := sch_prefix (wordsOf p) 0 48 (p.length / 4) (by rw [wordsOf_length]; omega)
    rw [wsI_get _ (wordsOf_length p) (by omega) (by omega)]
    rw [Nat.zero_add] at h48
    rw [h48]; rfl
  have hset := wsI_more p c hx
  refine AC.left (AC.body tokT Try.func78 rfl rfl rfl (by decide) (by rfl) ?_)
  refine AW.seq (AW.draw [(false, 0), (false, 1), (false, 2), (false, 3), (false, 4), (false, 5), (false, 6), (false, 7), (false, 8), (false, 9), (false, 10), (false, 11), (false, 12), (false, 13), (false, 14), (false, 15), (false, 16), (false, 17), (false, 18), (false, 19), (false, 20), (false, 21), (false, 22), (false, 23), (true, 24)] (keep := fun _ => true) mixed_ok' tokT (by kernel_rfl) (by kernel_rfl) ?_)
  ((conv => whnf); (repeat (((refine Exists.intro _ (And.intro (by ((conv => whnf); (repeat ((refine And.intro (by first | exact rfl | omega) ?_); (conv => whnf))))) ?_)); (conv => whnf)))))
  rw [hq]
  ((conv => whnf); (repeat (((refine Exists.intro _ (And.intro (by ((conv => whnf); (repeat ((refine And.intro (by first | exact rfl | omega) ?_); (conv => whnf))))) ?_)); (conv => whnf)))))
  rw [hr, hs]
  ((conv => whnf); (repeat (first | ((with_reducible (refine And.intro (show Go.Aw.againsK _ _ _ _ _ from ?_) ?_)); (focus (repeat' (first | ((with_reducible (show Go.Aw.againsK _ _ _ _ _)); (conv => whnf)) | ((with_reducible (show Go.Aw.againK _ _ _ _ _)); (conv => whnf)) | (with_reducible (exact True.intro)) | (with_reducible (refine And.intro ?_ ?_)) | exact rfl))); (conv => whnf)) | ((refine And.intro (by omega) ?_); (conv => whnf)) | ((refine Exists.intro _ (And.intro (by ((conv => whnf); (repeat ((refine And.intro (by first | exact rfl | omega) ?_); (conv => whnf))))) ?_)); (conv => whnf)))))
  rw [show (((p.length / 4 : Nat) : Int)).toNat = p.length / 4 from Int.toNat_natCast _, hget, wrap_wI c, show BitVec.ofInt 32 c = bW c from rfl, w_shl _ _ (by omega), w_or, hset]
  (refine AW.turnL [0] [(0, .ptr 0 0 0 0)] [⟨74, false, none, .var [.ints .u32 8 s.l, .ints .u32 64 (wsI (wordsOf (p ++ [c])) 0), .int .i64 (p.length : Int), .int .u64 n]⟩] (by rfl) (by rfl) (by rfl) (by (repeat' (first | exact True.intro | exact rfl | refine And.intro ?_ ?_ | (simp [AV.ren, AV.rens, AObj.ren, Ent.ren, AV.inn, AV.inns, AObj.inn, *]; done)))) (by (repeat' (first | exact True.intro | exact rfl | refine And.intro ?_ ?_ | (simp [AV.ren, AV.rens, AObj.ren, Ent.ren, AV.inn, AV.inns, AObj.inn, *]; done)))) ?_)
  refine AW.pre tokT (fun _ => true) ?_; (conv => whnf)
  refine ev_sound tokT (keep := fun _ => true) ?_
  (conv => whnf)
  rw [IntWalk.i64_in _ (by omega)]
  (cases h63 : ((↑p.length : Int) + 1 == 64 : Bool) <;> (try simp only [beq_iff_eq, beq_eq_false_iff_ne, ne_eq, decide_eq_true_eq, decide_eq_false_iff_not, bne_iff_ne, bne_eq_false_iff_eq, Bool.not_eq_true, Bool.not_eq_false, gt_iff_lt, ge_iff_le] at h63) <;> (try (exfalso; omega)))
  case' true =>
    (conv => whnf)
    have hp63 : p.length = 63 := by omega
    refine AC.frame (stir_ok s (wordsOf (p ++ [c])) (wordsOf_length _) ((p.length : Int) + 1) n) [0] (by (repeat' (first | exact True.intro | exact rfl | refine And.intro ?_ ?_))) (by rfl) (by (repeat' (first | exact True.intro | refine And.intro ?_ ?_ | (simp [AV.ren, AV.rens, AObj.ren, Ent.ren, AV.inn, AV.inns, AObj.inn, *]; done)))) (by rfl) ?_
    rintro r0 hp0 ⟨rfl, rfl⟩
    (conv => whnf)
    (refine Left.of [0] (.tup []) [⟨74, false, none, .var [.ints .u32 8 (compr s (wordsOf (p ++ [c]))).l, .ints .u32 64 (List.replicate 64 0), .int .i64 0, .int .u64 n]⟩] (by rfl) (by rfl) (by rfl) (by (repeat' (first | exact True.intro | exact rfl | refine And.intro ?_ ?_))) (by rfl) (by (repeat' (first | exact True.intro | exact rfl | refine And.intro ?_ ?_))) ?_)
    refine ⟨rfl, ?_⟩
    simp only [takeB, hp63, if_true, sumE_nil]
  (conv => whnf)
  have hp63 : ¬ p.length = 63 := by omega
  (refine Left.of [0] (.tup []) [⟨74, false, none, .var [.ints .u32 8 s.l, .ints .u32 64 (wsI (wordsOf (p ++ [c])) 0), .int .i64 ((p.length : Int) + 1), .int .u64 n]⟩] (by rfl) (by rfl) (by rfl) (by (repeat' (first | exact True.intro | exact rfl | refine And.intro ?_ ?_))) (by rfl) (by (repeat' (first | exact True.intro | exact rfl | refine And.intro ?_ ?_))) ?_)
  refine ⟨rfl, ?_⟩
  simp only [takeB, if_neg hp63, sumE, List.length_append, List.length_singleton]
  rfl

/-! ### the end -/
def St.w (s : St) : Nat → W32
  | 0 => s.a | 1 => s.b | 2 => s.c | 3 => s.d | 4 => s.e | 5 => s.f | 6 => s.g | _ => s.h
theorem takeSnoc (l : List Int) (i : Nat) (h : i < l.length) : l.take (i + 1) = l.take i ++ [l.getD i 0] := by
  rw [List.take_add_one, List.getD_eq_getElem?_getD, List.getElem?_eq_getElem h]; simp
theorem out_get (s : St) {i : Nat} (h : i < 32) : IntKind.u8.wrap (wI ((s.w (i / 4)) >>> (24 - 8 * (i % 4)))) = (outS s).getD i 0 := by
  have : i = 0 ∨ i = 1 ∨ i = 2 ∨ i = 3 ∨ i = 4 ∨ i = 5 ∨ i = 6 ∨ i = 7 ∨ i = 8 ∨ i = 9 ∨ i = 10 ∨ i = 11 ∨ i = 12 ∨ i = 13 ∨ i = 14 ∨ i = 15 ∨ i = 16 ∨ i = 17 ∨ i = 18 ∨ i = 19 ∨ i = 20 ∨ i = 21 ∨ i = 22 ∨ i = 23 ∨ i = 24 ∨ i = 25 ∨ i = 26 ∨ i = 27 ∨ i = 28 ∨ i = 29 ∨ i = 30 ∨ i = 31 := by omega
  rcases this with rfl | rfl | rfl | rfl | rfl | rfl | rfl | rfl | rfl | rfl | rfl | rfl | rfl | rfl | rfl | rfl | rfl | rfl | rfl | rfl | rfl | rfl | rfl | rfl | rfl | rfl | rfl | rfl | rfl | rfl | rfl | rfl <;> rw [IntKind.wrap_u8] <;> rfl
theorem l_get (s : St) {i : Nat} (h : i < 32) : s.l.getD (i / 4) 0 = wI (s.w (i / 4)) := by
  have : i / 4 = 0 ∨ i / 4 = 1 ∨ i / 4 = 2 ∨ i / 4 = 3 ∨ i / 4 = 4 ∨ i / 4 = 5 ∨ i / 4 = 6 ∨ i / 4 = 7 := by omega
  rcases this with e | e | e | e | e | e | e | e <;> rw [e] <;> rfl
/-- the sum's bytes, so many of them laid down -/
def outI (s : St) (i : Nat) : List Int := (outS s).take i ++ List.replicate (32 - i) 0
theorem outI_set (s : St) {i : Nat} (h : i < 32) : (outI s i).set i ((outS s).getD i 0) = outI s (i + 1) := by
  unfold outI
  have hl := outS_length s
  rw [List.set_append_right _ _ (by simp; omega)]
  have : i - ((outS s).take i).length = 0 := by simp; omega
  rw [this, show 32 - i = (32 - (i + 1)) + 1 by omega, List.replicate_succ, List.set_cons_zero, takeSnoc _ _ (by omega)]
  simp
theorem be8_get (N : Int) {i : Nat} (h : i < 8) : (be8 N).getD i 0 = N / 256 ^ (7 - i) % 256 := by
  have : i = 0 ∨ i = 1 ∨ i = 2 ∨ i = 3 ∨ i = 4 ∨ i = 5 ∨ i = 6 ∨ i = 7 := by omega
  rcases this with rfl | rfl | rfl | rfl | rfl | rfl | rfl | rfl <;> simp [be8]

/-- what 'end' takes in -/
def endL (k : Nat) (N : Int) : List Int := 128 :: (List.replicate ((119 - k) % 64) 0 ++ be8 N)
theorem end_ok (x : St × List Int) (n : Int) (hx : x.2.length < 64) (h0 : 0 ≤ n) (h1 : 8 * n < 18446744073709551616) :
    AC Try.prog 79 [.ptr 0 0 0 0] [sumE x n] (fun r hp' => r = .agg [.ints .u8 32 (outS (takesB x (endL x.2.length (8 * n))).1)] ∧ hp' = [sumE (takesB x (endL x.2.length (8 * n))) n]) := by
  refine AC.left (AC.body tokT Try.func79 rfl rfl rfl (by decide) (by rfl) ?_)
  refine AW.pre tokT (fun _ => true) ?_; (conv => whnf)
  refine AW.pre tokT (fun _ => true) ?_; (conv => whnf)
  rw [IntWalk.u64_in _ (by omega)]
  refine AW.pre tokT (fun _ => true) ?_; (conv => whnf)
  refine AC.frame (take_ok x 128 n hx) [0] (by (repeat' (first | exact True.intro | exact rfl | refine And.intro ?_ ?_))) (by rfl) (by (repeat' (first | exact True.intro | refine And.intro ?_ ?_ | (simp [AV.ren, AV.rens, AObj.ren, Ent.ren, AV.inn, AV.inns, AObj.inn, *]; done)))) (by rfl) ?_
  rintro r0 hp0 ⟨rfl, rfl⟩
  (conv => whnf)
  have hl1 := takeB_length 128 hx
  obtain ⟨y, hy⟩ : ∃ y, takeB x 128 = y := ⟨_, rfl⟩
  rw [hy] at hl1 ⊢
  have hyl : y.2.length < 64 := by omega
  -- zeros
  refine AW.cutT (fun fr hp => fr = [(0, .ptr 0 0 0 0), (2, .ptr 1 0 0 0), (3, .int .u64 (8 * n))] ∧ hp = [sumE (takesB y (List.replicate ((119 - x.2.length) % 64) 0)) n, ⟨32, false, none, .var [.ints .u8 32 (List.replicate 32 0)]⟩]) ?_ ?_
  · refine AW.block ?_
    (refine AW.turnL [0, 1] [(0, .ptr 0 0 0 0), (2, .ptr 1 0 0 0), (3, .int .u64 (8 * n))] [sumE y n, ⟨32, false, none, .var [.ints .u8 32 (List.replicate 32 0)]⟩] (by rfl) (by rfl) (by rfl) (by (repeat' (first | exact True.intro | exact rfl | refine And.intro ?_ ?_ | (simp [AV.ren, AV.rens, AObj.ren, Ent.ren, AV.inn, AV.inns, AObj.inn, *]; done)))) (by (repeat' (first | exact True.intro | exact rfl | refine And.intro ?_ ?_ | (simp [AV.ren, AV.rens, AObj.ren, Ent.ren, AV.inn, AV.inns, AObj.inn, *]; done)))) ?_)
    refine AW.loop (fun q fr hp => ∃ j, q = 64 - j ∧ j ≤ (119 - x.2.length) % 64 ∧ fr = [(0, .ptr 0 0 0 0), (2, .ptr 1 0 0 0), (3, .int .u64 (8 * n))] ∧ hp = [sumE (takesB y (List.replicate j 0)) n, ⟨32, false, none, .var [.ints .u8 32 (List.replicate 32 0)]⟩]) 64 ?_ ?_
    · exact ⟨0, rfl, by omega, rfl, rfl⟩
    · rintro q fr hp ⟨j, rfl, hj, rfl, rfl⟩ -
      have hzl := takesB_length (List.replicate j 0) hyl
      simp only [List.length_replicate] at hzl
      obtain ⟨z, hz⟩ : ∃ z, takesB y (List.replicate j 0) = z := ⟨_, rfl⟩
      rw [hz] at hzl ⊢
      refine AW.post ?_
      refine ev_sound tokT (keep := fun _ => true) ?_
      (conv => whnf); (cases h56 : ((↑z.snd.length : Int) != 56 : Bool) <;> (try simp only [beq_iff_eq, beq_eq_false_iff_ne, ne_eq, decide_eq_true_eq, decide_eq_false_iff_not, bne_iff_ne, bne_eq_false_iff_eq, Bool.not_eq_true, Bool.not_eq_false, gt_iff_lt, ge_iff_le] at h56) <;> (try (exfalso; omega)))
      case' false =>
        (conv => whnf)
        have : j = (119 - x.2.length) % 64 := by omega
        rw [← this, hz]
        (refine Turned.of [0, 1] [(0, .ptr 0 0 0 0), (2, .ptr 1 0 0 0), (3, .int .u64 (8 * n))] [sumE z n, ⟨32, false, none, .var [.ints .u8 32 (List.replicate 32 0)]⟩] (by rfl) (by rfl) (by rfl) (by (repeat' (first | exact True.intro | exact rfl | refine And.intro ?_ ?_ | (simp [AV.ren, AV.rens, AObj.ren, Ent.ren, AV.inn, AV.inns, AObj.inn, *]; done)))) (by (repeat' (first | exact True.intro | exact rfl | refine And.intro ?_ ?_ | (simp [AV.ren, AV.rens, AObj.ren, Ent.ren, AV.inn, AV.inns, AObj.inn, *]; done)))) ?_)
        exact ⟨rfl, rfl⟩
      (conv => whnf)
      refine AC.frame (take_ok z 0 n (by omega)) [0] (by (repeat' (first | exact True.intro | exact rfl | refine And.intro ?_ ?_))) (by rfl) (by (repeat' (first | exact True.intro | refine And.intro ?_ ?_ | (simp [AV.ren, AV.rens, AObj.ren, Ent.ren, AV.inn, AV.inns, AObj.inn, *]; done)))) (by rfl) ?_
      rintro r0 hp0 ⟨rfl, rfl⟩
      (conv => whnf)
      (refine Turned.of [0, 1] [(0, .ptr 0 0 0 0), (2, .ptr 1 0 0 0), (3, .int .u64 (8 * n))] [sumE (takeB z 0) n, ⟨32, false, none, .var [.ints .u8 32 (List.replicate 32 0)]⟩] (by rfl) (by rfl) (by rfl) (by (repeat' (first | exact True.intro | exact rfl | refine And.intro ?_ ?_ | (simp [AV.ren, AV.rens, AObj.ren, Ent.ren, AV.inn, AV.inns, AObj.inn, *]; done)))) (by (repeat' (first | exact True.intro | exact rfl | refine And.intro ?_ ?_ | (simp [AV.ren, AV.rens, AObj.ren, Ent.ren, AV.inn, AV.inns, AObj.inn, *]; done)))) ?_)
      refine ⟨64 - (j + 1), by omega, j + 1, rfl, by omega, rfl, ?_⟩
      rw [show List.replicate (j + 1) (0 : Int) = List.replicate j 0 ++ [0] from List.replicate_succ', takesB_append, hz]; rfl
  · rintro fr hp ⟨rfl, rfl⟩
    have hzl := takesB_length (List.replicate ((119 - x.2.length) % 64) 0) hyl
    simp only [List.length_replicate] at hzl
    obtain ⟨z, hz⟩ : ∃ z, takesB y (List.replicate ((119 - x.2.length) % 64) 0) = z := ⟨_, rfl⟩
    rw [hz] at hzl ⊢
    obtain ⟨N, hN⟩ : ∃ N, 8 * n = N := ⟨_, rfl⟩
    rw [hN] at h1 ⊢
    have hN0 : 0 ≤ N := by omega
    have hb8 : (be8 N).length = 8 := rfl
    -- the number of bits
    refine AW.cutT (fun fr hp => fr = [(0, .ptr 0 0 0 0), (2, .ptr 1 0 0 0)] ∧ hp = [sumE (takesB z (be8 N)) n, ⟨32, false, none, .var [.ints .u8 32 (List.replicate 32 0)]⟩]) ?_ ?_
    · refine AW.pre tokT (fun _ => true) ?_; (conv => whnf)
      refine AW.block ?_
      (refine AW.turnL [0, 1] [(0, .ptr 0 0 0 0), (2, .ptr 1 0 0 0), (3, .int .u64 N), (20, .int .i64 0)] [sumE z n, ⟨32, false, none, .var [.ints .u8 32 (List.replicate 32 0)]⟩] (by rfl) (by rfl) (by rfl) (by (repeat' (first | exact True.intro | exact rfl | refine And.intro ?_ ?_ | (simp [AV.ren, AV.rens, AObj.ren, Ent.ren, AV.inn, AV.inns, AObj.inn, *]; done)))) (by (repeat' (first | exact True.intro | exact rfl | refine And.intro ?_ ?_ | (simp [AV.ren, AV.rens, AObj.ren, Ent.ren, AV.inn, AV.inns, AObj.inn, *]; done)))) ?_)
      refine AW.loop (fun q fr hp => ∃ j, q = 8 - j ∧ j ≤ 8 ∧ fr = [(0, .ptr 0 0 0 0), (2, .ptr 1 0 0 0), (3, .int .u64 N), (20, .int .i64 j)] ∧ hp = [sumE (takesB z ((be8 N).take j)) n, ⟨32, false, none, .var [.ints .u8 32 (List.replicate 32 0)]⟩]) 8 ?_ ?_
      · exact ⟨0, rfl, by omega, rfl, rfl⟩
      · rintro q fr hp ⟨j, rfl, hj, rfl, rfl⟩ -
        have hul := takesB_length ((be8 N).take j) (x := z) (by omega)
        obtain ⟨u, hu⟩ : ∃ u, takesB z ((be8 N).take j) = u := ⟨_, rfl⟩
        rw [hu] at hul ⊢
        refine AW.post ?_
        refine ev_sound tokT (keep := fun _ => true) ?_
        (conv => whnf); (cases hlt : (decide ((↑j : Int) < 8) : Bool) <;> (try simp only [beq_iff_eq, beq_eq_false_iff_ne, ne_eq, decide_eq_true_eq, decide_eq_false_iff_not, bne_iff_ne, bne_eq_false_iff_eq, Bool.not_eq_true, Bool.not_eq_false, gt_iff_lt, ge_iff_le] at hlt) <;> (try (exfalso; omega)))
        case' false =>
          (conv => whnf)
          have : j = 8 := by omega
          subst this
          rw [show (be8 N).take 8 = be8 N from rfl] at hu
          rw [hu]
          (refine Turned.of [0, 1] [(0, .ptr 0 0 0 0), (2, .ptr 1 0 0 0)] [sumE u n, ⟨32, false, none, .var [.ints .u8 32 (List.replicate 32 0)]⟩] (by rfl) (by rfl) (by rfl) (by (repeat' (first | exact True.intro | exact rfl | refine And.intro ?_ ?_ | (simp [AV.ren, AV.rens, AObj.ren, Ent.ren, AV.inn, AV.inns, AObj.inn, *]; done)))) (by (repeat' (first | exact True.intro | exact rfl | refine And.intro ?_ ?_ | (simp [AV.ren, AV.rens, AObj.ren, Ent.ren, AV.inn, AV.inns, AObj.inn, *]; done)))) ?_)
          exact ⟨rfl, rfl⟩
        have hj8 : j < 8 := by omega
        have e1 : IntKind.i64.wrap (56 - IntKind.i64.wrap (8 * (j : Int))) = ((56 - 8 * j : Nat) : Int) := by
          rw [IntWalk.i64_in (8 * _) (by omega), IntWalk.i64_in _ (by omega)]; omega
        have e1' : 0 ≤ IntKind.i64.wrap (56 - IntKind.i64.wrap (8 * (j : Int))) := by rw [e1]; omega
        ((conv => whnf); (repeat (((refine And.intro (by assumption) ?_); (conv => whnf)))))
        rw [e1]
        (conv => whnf)
        have e2 : IntKind.u8.wrap (shrI .u64 N ((56 - 8 * j : Nat) : Int)) = (be8 N).getD j 0 := by
          rw [be8_get N hj8, IntKind.wrap_u8]
          unfold shrI
          have : min (((56 - 8 * j : Nat) : Int)).toNat IntKind.u64.bits = 56 - 8 * j := by simp only [IntKind.bits]; omega
          rw [this, Int.fdiv_eq_ediv_of_nonneg _ (by exact Int.le_of_lt (Int.pow_pos (by omega)))]
          rw [show (56 - 8 * j) = 8 * (7 - j) by omega, Int.pow_mul]
          rfl
        rw [e2]
        refine AC.frame (take_ok u _ n (by omega)) [0] (by (repeat' (first | exact True.intro | exact rfl | refine And.intro ?_ ?_))) (by rfl) (by (repeat' (first | exact True.intro | refine And.intro ?_ ?_ | (simp [AV.ren, AV.rens, AObj.ren, Ent.ren, AV.inn, AV.inns, AObj.inn, *]; done)))) (by rfl) ?_
        rintro r0 hp0 ⟨rfl, rfl⟩
        (conv => whnf)
        rw [IntWalk.i64_in _ (by omega)]
        (refine Turned.of [0, 1] [(0, .ptr 0 0 0 0), (2, .ptr 1 0 0 0), (3, .int .u64 N), (20, .int .i64 ((j + 1 : Nat) : Int))] [sumE (takeB u ((be8 N).getD j 0)) n, ⟨32, false, none, .var [.ints .u8 32 (List.replicate 32 0)]⟩] (by rfl) (by rfl) (by rfl) (by (repeat' (first | exact True.intro | exact rfl | refine And.intro ?_ ?_ | (simp [AV.ren, AV.rens, AObj.ren, Ent.ren, AV.inn, AV.inns, AObj.inn, *]; done)))) (by (repeat' (first | exact True.intro | exact rfl | refine And.intro ?_ ?_ | (simp [AV.ren, AV.rens, AObj.ren, Ent.ren, AV.inn, AV.inns, AObj.inn, *]; done)))) ?_)
        refine ⟨8 - (j + 1), by omega, j + 1, rfl, by omega, rfl, ?_⟩
        rw [takeSnoc _ _ (by omega), takesB_append, hu]; rfl
    · rintro fr hp ⟨rfl, rfl⟩
      obtain ⟨v, hv⟩ : ∃ v, takesB z (be8 N) = v := ⟨_, rfl⟩
      have hend : takesB x (endL x.2.length N) = v := by
        unfold endL
        rw [takesB_cons, hy, takesB_append, hz, hv]
      rw [hend, hv]
      obtain ⟨s, p⟩ := v
      refine AW.cutT (fun fr hp => fr = [(0, .ptr 0 0 0 0), (2, .ptr 1 0 0 0)] ∧ hp = [sumE (s, p) n, ⟨32, false, none, .var [.ints .u8 32 (outS s)]⟩]) ?_ ?_
      · refine AW.pre tokT (fun _ => true) ?_; (conv => whnf)
        refine AW.block ?_
        (refine AW.turnL [0, 1] [(0, .ptr 0 0 0 0), (2, .ptr 1 0 0 0), (32, .int .i64 0)] [sumE (s, p) n, ⟨32, false, none, .var [.ints .u8 32 (List.replicate 32 0)]⟩] (by rfl) (by rfl) (by rfl) (by (repeat' (first | exact True.intro | exact rfl | refine And.intro ?_ ?_ | (simp [AV.ren, AV.rens, AObj.ren, Ent.ren, AV.inn, AV.inns, AObj.inn, *]; done)))) (by (repeat' (first | exact True.intro | exact rfl | refine And.intro ?_ ?_ | (simp [AV.ren, AV.rens, AObj.ren, Ent.ren, AV.inn, AV.inns, AObj.inn, *]; done)))) ?_)
        refine AW.loop (fun q fr hp => ∃ j, q = 32 - j ∧ j ≤ 32 ∧ fr = [(0, .ptr 0 0 0 0), (2, .ptr 1 0 0 0), (32, .int .i64 j)] ∧ hp = [sumE (s, p) n, ⟨32, false, none, .var [.ints .u8 32 (outI s j)]⟩]) 32 ?_ ?_
        · exact ⟨0, rfl, by omega, rfl, rfl⟩
        · rintro q fr hp ⟨j, rfl, hj, rfl, rfl⟩ -
          refine AW.post ?_
          refine ev_sound tokT (keep := fun _ => true) ?_
          (conv => whnf); (cases hlt : (decide ((↑j : Int) < 32) : Bool) <;> (try simp only [beq_iff_eq, beq_eq_false_iff_ne, ne_eq, decide_eq_true_eq, decide_eq_false_iff_not, bne_iff_ne, bne_eq_false_iff_eq, Bool.not_eq_true, Bool.not_eq_false, gt_iff_lt, ge_iff_le] at hlt) <;> (try (exfalso; omega)))
          case' false =>
            (conv => whnf)
            have : j = 32 := by omega
            subst this
            (refine Turned.of [0, 1] [(0, .ptr 0 0 0 0), (2, .ptr 1 0 0 0)] [sumE (s, p) n, ⟨32, false, none, .var [.ints .u8 32 (outI s 32)]⟩] (by rfl) (by rfl) (by rfl) (by (repeat' (first | exact True.intro | exact rfl | refine And.intro ?_ ?_ | (simp [AV.ren, AV.rens, AObj.ren, Ent.ren, AV.inn, AV.inns, AObj.inn, *]; done)))) (by (repeat' (first | exact True.intro | exact rfl | refine And.intro ?_ ?_ | (simp [AV.ren, AV.rens, AObj.ren, Ent.ren, AV.inn, AV.inns, AObj.inn, *]; done)))) ?_)
            refine ⟨rfl, ?_⟩
            unfold outI
            rw [List.take_of_length_le (by rw [outS_length]; omega)]; simp
          have hj32 : j < 32 := by omega
          have hl := l_get s hj32
          have ho := out_get s hj32
          have hset := outI_set s hj32
          have hq : IntKind.i64.wrap ((j : Int).tdiv 4) = ((j / 4 : Nat) : Int) := by
            rw [Int.tdiv_eq_ediv_of_nonneg (by omega), IntWalk.i64_in _ (by omega)]; omega
          have hr : (j : Int).tmod 4 = ((j % 4 : Nat) : Int) := by
            rw [Int.tmod_eq_emod_of_nonneg (by omega)]; omega
          have hs : IntKind.i64.wrap (24 - IntKind.i64.wrap (8 * ((j % 4 : Nat) : Int))) = ((24 - 8 * (j % 4) : Nat) : Int) := by
            rw [IntWalk.i64_in (8 * _) (by omega), IntWalk.i64_in _ (by omega)]; omega
          have hs' : 0 ≤ IntKind.i64.wrap (24 - IntKind.i64.wrap (8 * (j : Int).tmod 4)) := by rw [hr, hs]; omega
          ((conv => whnf); (repeat (((refine And.intro (by first | assumption | omega) ?_); (conv => whnf)))))
          rw [hq]
          (conv => whnf)
          rw [hr, hs, show (((j / 4 : Nat) : Int)).toNat = j / 4 from Int.toNat_natCast _, hl]
          (conv => whnf)
          rw [w_shr _ _ (by omega), ho, show (j : Int).toNat = j from Int.toNat_natCast _]
          rw [hset]
          rw [IntWalk.i64_in _ (by omega)]
          (refine Turned.of [0, 1] [(0, .ptr 0 0 0 0), (2, .ptr 1 0 0 0), (32, .int .i64 ((j + 1 : Nat) : Int))] [sumE (s, p) n, ⟨32, false, none, .var [.ints .u8 32 (outI s (j + 1))]⟩] (by rfl) (by rfl) (by rfl) (by (repeat' (first | exact True.intro | exact rfl | refine And.intro ?_ ?_ | (simp [AV.ren, AV.rens, AObj.ren, Ent.ren, AV.inn, AV.inns, AObj.inn, *]; done)))) (by (repeat' (first | exact True.intro | exact rfl | refine And.intro ?_ ?_ | (simp [AV.ren, AV.rens, AObj.ren, Ent.ren, AV.inn, AV.inns, AObj.inn, *]; done)))) ?_)
          exact ⟨32 - (j + 1), by omega, j + 1, rfl, by omega, rfl, rfl⟩
      · rintro fr hp ⟨rfl, rfl⟩
        refine ev_sound tokT (keep := fun _ => true) ?_
        (conv => whnf)
        (refine Left.of [0] (.agg [.ints .u8 32 (outS s)]) [sumE (s, p) n] (by rfl) (by rfl) (by rfl) (by (repeat' (first | exact True.intro | exact rfl | refine And.intro ?_ ?_))) (by rfl) (by (repeat' (first | exact True.intro | exact rfl | refine And.intro ?_ ?_))) ?_)
        exact ⟨rfl, rfl⟩
end Go.Aw
