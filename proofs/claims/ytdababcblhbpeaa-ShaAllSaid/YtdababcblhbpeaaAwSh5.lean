/-
  AwSh5: sha.Sum of pieces. Own work.
-/
import Derived.Test.YtdababcblhbpeaaAwSh4
set_option linter.unusedVariables false
set_option linter.unusedSimpArgs false
set_option maxRecDepth 20000
open Go.Proofs
namespace Go.Aw

/-- a piece of a block: where it begins, how long it is, its capacity if known -/
abbrev Piece := Nat × Nat × Option Nat
def Piece.cut (xs : List Int) (p : Piece) : List Int := (xs.drop p.1).take p.2.1
def Piece.av (p : Piece) : List AV := [.sl 1 p.1 p.2.1 p.2.2]
def catP (xs : List Int) : List Piece → List Int
  | [] => []
  | p :: r => Piece.cut xs p ++ catP xs r
theorem catP_append (xs : List Int) (a b : List Piece) : catP xs (a ++ b) = catP xs a ++ catP xs b := by
  induction a with
  | nil => rfl
  | cons x a ih => simp [catP, ih]
theorem takeSnocP {α : Type} (l : List α) (i : Nat) (h : i < l.length) : l.take (i + 1) = l.take i ++ [l[i]] := by
  rw [List.take_add_one, List.getElem?_eq_getElem h]; rfl
theorem catP_step (xs : List Int) (ps : List Piece) (i : Nat) (h : i < ps.length) : catP xs (ps.take (i + 1)) = catP xs (ps.take i) ++ Piece.cut xs ps[i] := by
  rw [takeSnocP _ _ h, catP_append]; simp [catP]
theorem catP_mono (xs : List Int) (ps : List Piece) (i : Nat) : (catP xs (ps.take i)).length ≤ (catP xs ps).length := by
  have h : catP xs ps = catP xs (ps.take i) ++ catP xs (ps.drop i) := by rw [← catP_append, List.take_append_drop]
  rw [h, List.length_append]; omega

theorem sum_ok (xs : List Int) (ps : List Piece) (cap : Option Nat) (hps : ∀ p ∈ ps, p.1 + p.2.1 ≤ xs.length) (hn : ps.length ≤ 65536) (hl : (catP xs ps).length ≤ 1152921504606846976) :
    AC Try.prog 30 [.sl 0 0 ps.length cap] [⟨1, true, none, .row (ps.map Piece.av)⟩, ⟨1, true, none, .ints .u8 xs⟩]
      (fun r hp' => r = .agg [.ints .u8 32 (shaL (catP xs ps))] ∧ hp' = [⟨1, true, none, .row (ps.map Piece.av)⟩, ⟨1, true, none, .ints .u8 xs⟩]) := by
  refine AC.left (AC.body tokT Try.func30 rfl rfl rfl (by decide) (by rfl) ?_)
  refine AW.pre tokT (fun _ => true) ?_; (conv => whnf)
  refine AW.pre tokT (fun _ => true) ?_; (conv => whnf)
  refine AC.frame begin_ok [] (by (repeat' (exact True.intro))) (by rfl) (by (repeat' (exact True.intro))) (by rfl) ?_
  rintro r0 hp0 ⟨rfl, rfl⟩
  (conv => whnf)
  obtain ⟨k, hk⟩ : ∃ k, ps.length = k := ⟨_, rfl⟩
  rw [hk] at hn ⊢
  obtain ⟨els, hels⟩ : ∃ els, ps.map Piece.av = els := ⟨_, rfl⟩
  rw [hels]
  have hel : ∀ (i : Nat) (h : i < ps.length), els[i]? = some [.sl 1 ps[i].1 ps[i].2.1 ps[i].2.2] := fun i h => by
    rw [← hels, List.getElem?_map, List.getElem?_eq_getElem h]; rfl
  have hfix : RowFix 2 els := by
    unfold RowFix
    rw [← hels]
    intro x hx
    obtain ⟨p, _, rfl⟩ := List.mem_map.1 hx
    simp [Piece.av, AV.inns, AV.inn]
  refine AW.cutT (fun fr hp => fr = [(0, .sl 0 0 k cap), (2, .ptr 2 0 0 0), (3, .ptr 3 0 0 0)] ∧
    hp = [⟨1, true, none, .row els⟩, ⟨1, true, none, .ints .u8 xs⟩, ⟨32, false, none, .var [.ints .u8 32 (List.replicate 32 0)]⟩, sumE (takesB (ivS, []) (catP xs ps)) ((catP xs ps).length : Int)]) ?_ ?_
  · refine AW.pre tokT (fun _ => true) ?_; (conv => whnf)
    refine AW.block ?_
    (refine AW.turnL [0, 1, 2, 3] [(0, .sl 0 0 k cap), (2, .ptr 2 0 0 0), (3, .ptr 3 0 0 0), (9, .sl 0 0 k cap), (10, .int .i64 k), (11, .int .i64 0)] [⟨1, true, none, .row els⟩, ⟨1, true, none, .ints .u8 xs⟩, ⟨32, false, none, .var [.ints .u8 32 (List.replicate 32 0)]⟩, sumE (ivS, []) 0] (by rfl) (by rfl) (by rfl) (by (repeat' (first | exact True.intro | exact rfl | refine And.intro ?_ ?_ | exact RowFix.ren (by assumption) rfl | exact RowFix.inn (by assumption) rfl | (simp [AV.ren, AV.rens, AObj.ren, Ent.ren, AV.inn, AV.inns, AObj.inn, *]; done)))) (by (repeat' (first | exact True.intro | exact rfl | refine And.intro ?_ ?_ | exact RowFix.ren (by assumption) rfl | exact RowFix.inn (by assumption) rfl | (simp [AV.ren, AV.rens, AObj.ren, Ent.ren, AV.inn, AV.inns, AObj.inn, *]; done)))) ?_)
    refine AW.loop (fun q fr hp => ∃ i, q = k - i ∧ i ≤ k ∧ fr = [(0, .sl 0 0 k cap), (2, .ptr 2 0 0 0), (3, .ptr 3 0 0 0), (9, .sl 0 0 k cap), (10, .int .i64 k), (11, .int .i64 i)] ∧
      hp = [⟨1, true, none, .row els⟩, ⟨1, true, none, .ints .u8 xs⟩, ⟨32, false, none, .var [.ints .u8 32 (List.replicate 32 0)]⟩, sumE (takesB (ivS, []) (catP xs (ps.take i))) ((catP xs (ps.take i)).length : Int)]) k ?_ ?_
    · exact ⟨0, by simp, by omega, rfl, by simp [catP, takesB]⟩
    · rintro q fr hp ⟨i, rfl, hi, rfl, rfl⟩ -
      have hmono := catP_mono xs ps i
      obtain ⟨A, hA⟩ : ∃ A, catP xs (ps.take i) = A := ⟨_, rfl⟩
      rw [hA] at hmono ⊢
      refine AW.post ?_
      refine ev_sound tokT (keep := fun _ => true) ?_
      (conv => whnf); (cases hlt : (decide ((↑i : Int) < (↑k : Int)) : Bool) <;> (try simp only [beq_iff_eq, beq_eq_false_iff_ne, ne_eq, decide_eq_true_eq, decide_eq_false_iff_not, bne_iff_ne, bne_eq_false_iff_eq, Bool.not_eq_true, Bool.not_eq_false, gt_iff_lt, ge_iff_le] at hlt) <;> (try (exfalso; omega)))
      case' false =>
        (conv => whnf)
        have : i = k := by omega
        subst this
        rw [show ps.take i = ps by rw [← hk, List.take_length]] at hA
        rw [hA]
        (refine Turned.of [0, 1, 2, 3] [(0, .sl 0 0 i cap), (2, .ptr 2 0 0 0), (3, .ptr 3 0 0 0)] [⟨1, true, none, .row els⟩, ⟨1, true, none, .ints .u8 xs⟩, ⟨32, false, none, .var [.ints .u8 32 (List.replicate 32 0)]⟩, sumE (takesB (ivS, []) A) (A.length : Int)] (by rfl) (by rfl) (by rfl) (by (repeat' (first | exact True.intro | exact rfl | refine And.intro ?_ ?_ | exact RowFix.ren (by assumption) rfl | exact RowFix.inn (by assumption) rfl | (simp [AV.ren, AV.rens, AObj.ren, Ent.ren, AV.inn, AV.inns, AObj.inn, *]; done)))) (by (repeat' (first | exact True.intro | exact rfl | refine And.intro ?_ ?_ | exact RowFix.ren (by assumption) rfl | exact RowFix.inn (by assumption) rfl | (simp [AV.ren, AV.rens, AObj.ren, Ent.ren, AV.inn, AV.inns, AObj.inn, *]; done)))) ?_)
        exact ⟨rfl, rfl⟩
      have hik : i < ps.length := by omega
      have hmono1 := catP_mono xs ps (i + 1)
      have hstep := catP_step xs ps i hik
      have hpi := hps ps[i] (List.getElem_mem hik)
      have hei := hel i hik
      obtain ⟨off, hoff⟩ : ∃ off, ps[i].1 = off := ⟨_, rfl⟩
      obtain ⟨ln, hln⟩ : ∃ ln, ps[i].2.1 = ln := ⟨_, rfl⟩
      obtain ⟨cp, hcp⟩ : ∃ cp, ps[i].2.2 = cp := ⟨_, rfl⟩
      have hcut : Piece.cut xs ps[i] = (xs.drop off).take ln := by unfold Piece.cut; rw [hoff, hln]
      rw [hoff, hln, hcp] at hei
      rw [hoff, hln] at hpi
      obtain ⟨B, hB⟩ : ∃ B, (xs.drop off).take ln = B := ⟨_, rfl⟩
      have hBl : B.length = ln := by rw [← hB]; simp; omega
      rw [hcut, hA, hB] at hstep
      rw [hstep] at hmono1
      simp only [List.length_append, hBl] at hmono1
      have hBg : ∀ j, j < ln → xs.getD (off + j) 0 = B.getD j 0 := fun j hj => by
        rw [← hB, List.getD_eq_getElem?_getD, List.getD_eq_getElem?_getD, List.getElem?_take_of_lt hj, List.getElem?_drop]
      ((conv => whnf); (repeat (((refine And.intro (by first | assumption | omega) ?_); (conv => whnf)))))
      rw [show 0 + (i : Int).toNat = i by simp, hei]
      (conv => whnf)
      rw [IntWalk.u64_in (ln : Int) (by omega), IntWalk.u64_in _ (by omega)]
      have hAl := takesB_length A (x := (ivS, [])) (by simp)
      simp only [List.length_nil, Nat.zero_add] at hAl
      obtain ⟨X, hX⟩ : ∃ X, takesB (ivS, []) A = X := ⟨_, rfl⟩
      rw [hX] at hAl ⊢
      have hfin : takesB (ivS, []) (catP xs (ps.take (i + 1))) = takesB X B := by rw [hstep, takesB_append, hX]
      have hlen : ((catP xs (ps.take (i + 1))).length : Int) = (A.length : Int) + ln := by rw [hstep]; simp [hBl]
      (refine AW.turnL [0, 1, 2, 3] [(0, .sl 0 0 k cap), (2, .ptr 2 0 0 0), (3, .ptr 3 0 0 0), (9, .sl 0 0 k cap), (10, .int .i64 k), (11, .int .i64 i), (25, .sl 1 off ln cp), (26, .int .i64 ln), (27, .int .i64 0)] [⟨1, true, none, .row els⟩, ⟨1, true, none, .ints .u8 xs⟩, ⟨32, false, none, .var [.ints .u8 32 (List.replicate 32 0)]⟩, sumE X ((A.length : Int) + ln)] (by rfl) (by rfl) (by rfl) (by (repeat' (first | exact True.intro | exact rfl | refine And.intro ?_ ?_ | exact RowFix.ren (by assumption) rfl | exact RowFix.inn (by assumption) rfl | (simp [AV.ren, AV.rens, AObj.ren, Ent.ren, AV.inn, AV.inns, AObj.inn, *]; done)))) (by (repeat' (first | exact True.intro | exact rfl | refine And.intro ?_ ?_ | exact RowFix.ren (by assumption) rfl | exact RowFix.inn (by assumption) rfl | (simp [AV.ren, AV.rens, AObj.ren, Ent.ren, AV.inn, AV.inns, AObj.inn, *]; done)))) ?_)
      refine AW.loop (fun q fr hp => ∃ j, q = ln - j ∧ j ≤ ln ∧ fr = [(0, .sl 0 0 k cap), (2, .ptr 2 0 0 0), (3, .ptr 3 0 0 0), (9, .sl 0 0 k cap), (10, .int .i64 k), (11, .int .i64 i), (25, .sl 1 off ln cp), (26, .int .i64 ln), (27, .int .i64 j)] ∧
        hp = [⟨1, true, none, .row els⟩, ⟨1, true, none, .ints .u8 xs⟩, ⟨32, false, none, .var [.ints .u8 32 (List.replicate 32 0)]⟩, sumE (takesB X (B.take j)) ((A.length : Int) + ln)]) ln ?_ ?_
      · exact ⟨0, by simp, by omega, rfl, rfl⟩
      · rintro q fr hp ⟨j, rfl, hj, rfl, rfl⟩ -
        have hul := takesB_length (B.take j) (x := X) (by omega)
        obtain ⟨u, hu⟩ : ∃ u, takesB X (B.take j) = u := ⟨_, rfl⟩
        rw [hu] at hul ⊢
        refine AW.post ?_
        refine ev_sound tokT (keep := fun _ => true) ?_
        (conv => whnf); (cases hjt : (decide ((↑j : Int) < (↑ln : Int)) : Bool) <;> (try simp only [beq_iff_eq, beq_eq_false_iff_ne, ne_eq, decide_eq_true_eq, decide_eq_false_iff_not, bne_iff_ne, bne_eq_false_iff_eq, Bool.not_eq_true, Bool.not_eq_false, gt_iff_lt, ge_iff_le] at hjt) <;> (try (exfalso; omega)))
        case' false =>
          (conv => whnf)
          rw [IntWalk.i64_in _ (by omega)]
          have : j = ln := by omega
          subst this
          rw [show B.take j = B by rw [← hBl, List.take_length]] at hu
          (refine Turned.of [0, 1, 2, 3] [(0, .sl 0 0 k cap), (2, .ptr 2 0 0 0), (3, .ptr 3 0 0 0), (9, .sl 0 0 k cap), (10, .int .i64 k), (11, .int .i64 ((i + 1 : Nat) : Int))] [⟨1, true, none, .row els⟩, ⟨1, true, none, .ints .u8 xs⟩, ⟨32, false, none, .var [.ints .u8 32 (List.replicate 32 0)]⟩, sumE u ((A.length : Int) + j)] (by rfl) (by rfl) (by rfl) (by (repeat' (first | exact True.intro | exact rfl | refine And.intro ?_ ?_ | exact RowFix.ren (by assumption) rfl | exact RowFix.inn (by assumption) rfl | (simp [AV.ren, AV.rens, AObj.ren, Ent.ren, AV.inn, AV.inns, AObj.inn, *]; done)))) (by (repeat' (first | exact True.intro | exact rfl | refine And.intro ?_ ?_ | exact RowFix.ren (by assumption) rfl | exact RowFix.inn (by assumption) rfl | (simp [AV.ren, AV.rens, AObj.ren, Ent.ren, AV.inn, AV.inns, AObj.inn, *]; done)))) ?_)
          refine ⟨k - (i + 1), by omega, i + 1, rfl, by omega, rfl, ?_⟩
          rw [hfin, hu, hlen]
        have hj' : j < ln := by omega
        have hg := hBg j hj'
        ((conv => whnf); (repeat (((refine And.intro (by first | assumption | omega) ?_); (conv => whnf)))))
        rw [show off + (j : Int).toNat = off + j by simp, hg]
        refine AC.frame (take_ok u _ _ (by omega)) [3] (by (repeat' (first | exact True.intro | exact rfl | refine And.intro ?_ ?_))) (by rfl) (by (repeat' (first | exact True.intro | refine And.intro ?_ ?_ | (simp [AV.ren, AV.rens, AObj.ren, Ent.ren, AV.inn, AV.inns, AObj.inn, *]; done)))) (by rfl) ?_
        rintro r0 hp0 ⟨rfl, rfl⟩
        (conv => whnf)
        rw [IntWalk.i64_in _ (by omega)]
        (refine Turned.of [0, 1, 2, 3] [(0, .sl 0 0 k cap), (2, .ptr 2 0 0 0), (3, .ptr 3 0 0 0), (9, .sl 0 0 k cap), (10, .int .i64 k), (11, .int .i64 i), (25, .sl 1 off ln cp), (26, .int .i64 ln), (27, .int .i64 ((j + 1 : Nat) : Int))] [⟨1, true, none, .row els⟩, ⟨1, true, none, .ints .u8 xs⟩, ⟨32, false, none, .var [.ints .u8 32 (List.replicate 32 0)]⟩, sumE (takeB u (B.getD j 0)) ((A.length : Int) + ln)] (by rfl) (by rfl) (by rfl) (by (repeat' (first | exact True.intro | exact rfl | refine And.intro ?_ ?_ | exact RowFix.ren (by assumption) rfl | exact RowFix.inn (by assumption) rfl | (simp [AV.ren, AV.rens, AObj.ren, Ent.ren, AV.inn, AV.inns, AObj.inn, *]; done)))) (by (repeat' (first | exact True.intro | exact rfl | refine And.intro ?_ ?_ | exact RowFix.ren (by assumption) rfl | exact RowFix.inn (by assumption) rfl | (simp [AV.ren, AV.rens, AObj.ren, Ent.ren, AV.inn, AV.inns, AObj.inn, *]; done)))) ?_)
        refine ⟨ln - (j + 1), by omega, j + 1, rfl, by omega, rfl, ?_⟩
        rw [takeSnoc _ _ (by omega), takesB_append, hu]; rfl
  · rintro fr hp ⟨rfl, rfl⟩
    obtain ⟨L, hL⟩ : ∃ L, catP xs ps = L := ⟨_, rfl⟩
    rw [hL] at hl ⊢
    have hLl := takesB_length L (x := (ivS, [])) (by simp)
    simp only [List.length_nil, Nat.zero_add] at hLl
    have hsha : outS (takesB (takesB (ivS, []) L) (endL (takesB (ivS, []) L).2.length (8 * (L.length : Int)))).1 = shaL L := by
      unfold shaL
      rw [takesB_append]
      congr 3
      unfold endL padL
      rw [hLl]
    refine ev_sound tokT (keep := fun _ => true) ?_
    (conv => whnf)
    refine AC.frame (end_ok (takesB (ivS, []) L) (L.length : Int) (by omega) (by omega) (by omega)) [3] (by (repeat' (first | exact True.intro | exact rfl | refine And.intro ?_ ?_))) (by rfl) (by (repeat' (first | exact True.intro | refine And.intro ?_ ?_ | (simp [AV.ren, AV.rens, AObj.ren, Ent.ren, AV.inn, AV.inns, AObj.inn, *]; done)))) (by rfl) ?_
    rintro r0 hp0 ⟨rfl, rfl⟩
    rw [hsha]
    (conv => whnf)
    (refine Left.of [0, 1] (.agg [.ints .u8 32 (shaL L)]) [⟨1, true, none, .row els⟩, ⟨1, true, none, .ints .u8 xs⟩] (by rfl) (by rfl) (by rfl) (by (repeat' (first | exact True.intro | exact rfl | refine And.intro ?_ ?_ | exact RowFix.ren (by assumption) rfl | exact RowFix.inn (by assumption) rfl))) (by rfl) (by (repeat' (first | exact True.intro | exact rfl | refine And.intro ?_ ?_ | exact RowFix.ren (by assumption) rfl | exact RowFix.inn (by assumption) rfl))) ?_)
    exact ⟨rfl, rfl⟩
end Go.Aw
