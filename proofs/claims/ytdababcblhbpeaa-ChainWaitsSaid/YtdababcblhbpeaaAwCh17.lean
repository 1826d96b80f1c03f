/-
  AwCh17: a new chain; a name. Own work.
-/
import Derived.Test.YtdababcblhbpeaaAwCh15
set_option linter.unusedVariables false
set_option linter.unusedSimpArgs false
set_option maxRecDepth 20000
set_option maxHeartbeats 1000000
open Go.Proofs
namespace Go.Aw

def newC (h : Hdr) (k most : Int) : Ch := ⟨k, most, [(0, hidOf h, ⟨h.prev, 0, h.work, 0⟩)], 1, [hidOf h], [], 0, false⟩
@[irreducible] def newB (h : Hdr) (k most : Int) : Bool := mayB h && decide (1 ≤ k ∧ k ≤ 100 ∧ 0 ≤ most ∧ most ≤ 100)
theorem new_ok (h : Hdr) (k most : Int) (hw : h.wf) (hb : newB h k most = true) :
    AC Try.prog 59 [h.av, .int .i64 k, .int .i64 most] [] (fun r hp' => r = .tup [.ptr 0 0 0 0, .int .i64 0] ∧ hp' = [(newC h k most).varE false 1 2 3, (newC h k most).mapE false, (newC h k most).wayE false, (newC h k most).orpE false]) := by
  refine AC.left (AC.body tokT Try.func59 rfl rfl rfl (by decide) (by rfl) ?_)
  have hmy := may_ok h
  unfold newB at hb
  rw [Bool.and_eq_true, decide_eq_true_eq] at hb
  obtain ⟨hm, hb⟩ := hb
  rw [hm] at hmy
  have hmay := mayB_true.1 hm
  have hio := id_ok h hw (may_fits hmay).1 (may_fits hmay).2
  refine AW.pre tokT (fun _ => true) ?_; (conv => whnf)
  refine AW.cutT (fun fr hp => fr = [(1, .int .i64 k), (2, .int .i64 most), (3, .ptr 0 0 0 0)] ∧ hp = [⟨66, false, none, .var h.segs⟩]) ?_ ?_
  · refine ev_sound tokT (keep := fun _ => true) ?_
    (conv => whnf)
    refine AC.pure (v := .bool true) hmy (by simp [AV.inns, AV.inn]) (by simp [AV.inn]) ?_
    (conv => whnf)
    rw [decide_eq_false (show ¬ k < 1 by omega)]
    (conv => whnf)
    rw [decide_eq_false (show ¬ k > 100 by omega)]
    (conv => whnf)
    rw [decide_eq_false (show ¬ most < 0 by omega)]
    (conv => whnf)
    rw [decide_eq_false (show ¬ most > 100 by omega)]
    (conv => whnf)
    (refine Turned.of [0] [(1, .int .i64 k), (2, .int .i64 most), (3, .ptr 0 0 0 0)] [⟨66, false, none, .var h.segs⟩] (by rfl) (by rfl) (by rfl) (by (repeat' (first | exact True.intro | exact rfl | refine And.intro ?_ ?_ | (simp [AV.ren, AV.rens, AObj.ren, Ent.ren, AV.inn, AV.inns, AObj.inn, *]; done)))) (by (repeat' (first | exact True.intro | exact rfl | refine And.intro ?_ ?_ | (simp [AV.ren, AV.rens, AObj.ren, Ent.ren, AV.inn, AV.inns, AObj.inn, *]; done)))) ?_)
    exact ⟨rfl, rfl⟩
  rintro fr hp ⟨rfl, rfl⟩
  refine AW.pre tokT (fun _ => true) ?_; (conv => whnf)
  refine AC.pure (v := .agg [.ints .u8 32 (hidOf h)]) hio (by simp [AV.inns, AV.inn]) (by simp [AV.inn, AV.inns]) ?_
  (conv => whnf)
  refine AW.pre tokT (fun _ => true) ?_; (conv => whnf)
  (refine AW.turnL [4, 2, 3, 0, 1] [(3, .ptr 3 0 0 0), (8, .ptr 4 0 0 0), (9, .ptr 0 0 0 0)] [⟨7, false, none, .var [.int .i64 k, .int .i64 most, .mp 1, .sl 2 0 1 (some 1), .con (.slice none 0 0), .int .i64 0, .bool false]⟩, ⟨0, false, none, .map .u8 32 [] 0⟩, ⟨32, false, none, .row [[.ints .u8 32 (hidOf h)]]⟩, ⟨66, false, none, .var h.segs⟩, ⟨32, false, none, .var [.ints .u8 32 (hidOf h)]⟩] (by rfl) (by rfl) (by rfl) (by (repeat' (first | exact True.intro | exact rfl | refine And.intro ?_ ?_ | (simp [AV.ren, AV.rens, AObj.ren, Ent.ren, AV.inn, AV.inns, AObj.inn, *]; done)))) (by (repeat' (first | exact True.intro | exact rfl | refine And.intro ?_ ?_ | (simp [AV.ren, AV.rens, AObj.ren, Ent.ren, AV.inn, AV.inns, AObj.inn, *]; done)))) ?_)
  refine AW.capOff 0 3 7 false none _ [⟨7, false, none, .var [.int .i64 k, .int .i64 most, .mp 1, .sl 2 0 1 none, .con (.slice none 0 0), .int .i64 0, .bool false]⟩, ⟨0, false, none, .map .u8 32 [] 0⟩, ⟨32, false, none, .row [[.ints .u8 32 (hidOf h)]]⟩, ⟨66, false, none, .var h.segs⟩, ⟨32, false, none, .var [.ints .u8 32 (hidOf h)]⟩] rfl rfl ?_
  refine AW.nilCell 0 4 98 (.row []) [⟨7, false, none, .var [.int .i64 k, .int .i64 most, .mp 1, .sl 2 0 1 none, .sl 5 0 0 none, .int .i64 0, .bool false]⟩, ⟨0, false, none, .map .u8 32 [] 0⟩, ⟨32, false, none, .row [[.ints .u8 32 (hidOf h)]]⟩, ⟨66, false, none, .var h.segs⟩, ⟨32, false, none, .var [.ints .u8 32 (hidOf h)]⟩, ⟨98, false, none, .row []⟩] _ rfl rfl rfl ?_
  refine AW.seq (AW.drawT (.pure 0 (.pure 1 (.pure 2 (.pure 3 (.pure 4 (.pure 5 (.pure 6 (.pure 7 (.pure 8 (.pure 9 (.one 10 .fin))))))))))) (keep := fun _ => true) mixed_okC tokT (by kernel_rfl) (by kernel_rfl) ?_)
  ((conv => whnf); (repeat (first | ((with_reducible (refine And.intro (show Go.Aw.againsK _ _ _ _ _ from ?_) ?_)); (focus (repeat' (first | ((with_reducible (show Go.Aw.againsK _ _ _ _ _)); (conv => whnf)) | (with_reducible (exact True.intro))))); (conv => whnf)) | ((refine Exists.intro _ (And.intro (by ((conv => whnf); (repeat ((refine And.intro (by exact rfl) ?_); (conv => whnf))))) ?_)); (conv => whnf)))))
  refine ev_sound tokT (keep := fun _ => true) ?_
  (conv => whnf)
  (refine Left.of [0, 1, 2, 5] (.tup [.ptr 0 0 0 0, .int .i64 0]) [(newC h k most).varE false 1 2 3, ⟨0, false, none, .map .u8 32 (knM [(0, hidOf h, ⟨h.prev, 0, h.work, 0⟩)]) 1⟩, ⟨32, false, none, .row (rowH [hidOf h])⟩, ⟨98, false, none, .row (rowO [])⟩] (by rfl) (by rfl) (by rfl) (by (repeat' (first | exact True.intro | exact rfl | refine And.intro ?_ ?_ | (simp [AV.ren, AV.rens, AObj.ren, Ent.ren, AV.inn, AV.inns, AObj.inn, *]; done)))) (by rfl) (by (repeat' (first | exact True.intro | exact rfl | refine And.intro ?_ ?_ | (simp [AV.ren, AV.rens, AObj.ren, Ent.ren, AV.inn, AV.inns, AObj.inn, *]; done)))) ?_)
  exact ⟨rfl, rfl⟩
theorem new_bad (h : Hdr) (k most : Int) (hb : 1 ≤ most ∨ True) (hk : k < 1) :
    AC Try.prog 59 [h.av, .int .i64 k, .int .i64 most] [] (fun r hp' => r = .tup [.con (.pointer none), .int .i64 1] ∧ hp' = []) := by
  refine AC.left (AC.body tokT Try.func59 rfl rfl rfl (by decide) (by rfl) ?_)
  have hmy := may_ok h
  obtain ⟨mb, hmb⟩ : ∃ x, mayB h = x := ⟨_, rfl⟩
  rw [hmb] at hmy
  refine AW.pre tokT (fun _ => true) ?_; (conv => whnf)
  refine AW.pre tokT (fun _ => true) ?_
  (conv => whnf)
  refine AC.pure (v := .bool mb) hmy (by simp [AV.inns, AV.inn]) (by simp [AV.inn]) ?_
  cases mb with
  | false =>
    (conv => whnf)
    (refine Left.of [] (.tup [.con (.pointer none), .int .i64 1]) [] (by rfl) (by rfl) (by rfl) (by (repeat' (first | exact True.intro | refine And.intro ?_ ?_))) (by rfl) (by (repeat' (first | exact True.intro | refine And.intro ?_ ?_))) ?_)
    exact ⟨rfl, rfl⟩
  | true =>
    (conv => whnf)
    rw [decide_eq_true (show k < 1 by omega)]
    (conv => whnf)
    (refine Left.of [] (.tup [.con (.pointer none), .int .i64 1]) [] (by rfl) (by rfl) (by rfl) (by (repeat' (first | exact True.intro | refine And.intro ?_ ?_))) (by rfl) (by (repeat' (first | exact True.intro | refine And.intro ?_ ?_))) ?_)
    exact ⟨rfl, rfl⟩
/-- a name of a small number -/
def nameL (n : Int) : List Int := n :: List.replicate 30 0 ++ [1]
@[irreducible] def nmC (n : Int) (i : Nat) : List Int := if i = 0 then List.replicate 32 0 else n :: List.replicate 31 0
theorem nmC_set (n : Int) (i : Nat) (h0 : 0 ≤ n ∧ n < 256) (hi : i < 8) : (nmC n i).set ((i : Nat) : Int).toNat (IntKind.u8.wrap (shrI .i64 n (IntKind.i64.wrap (8 * ((i : Nat) : Int))))) = nmC n (i + 1) := by
  rw [IntWalk.i64_in (8 * ((i : Nat) : Int)) (by omega), Int.toNat_natCast]
  have hsh : shrI .i64 n (8 * ((i : Nat) : Int)) = if i = 0 then n else 0 := by
    unfold shrI
    have hm : min (8 * ((i : Nat) : Int)).toNat (IntKind.bits .i64) = 8 * i := by
      have : IntKind.bits .i64 = 64 := rfl
      rw [this]; omega
    rw [hm, Int.fdiv_eq_ediv_of_nonneg _ (by exact Int.le_of_lt (Int.pow_pos (by decide)))]
    split
    · rename_i h; subst h; simp
    · rename_i h
      refine Int.ediv_eq_zero_of_lt h0.1 ?_
      have h2 : 2 ^ 8 ≤ 2 ^ (8 * i) := Nat.pow_le_pow_right (by decide) (by omega)
      have h3 : (256 : Int) ≤ 2 ^ (8 * i) := by exact_mod_cast h2
      omega
  rw [hsh]
  unfold nmC
  rw [if_neg (Nat.succ_ne_zero i)]
  rcases Nat.eq_zero_or_pos i with q | q
  · subst q
    rw [if_pos rfl, if_pos rfl, IntWalk.u8_in n (by omega)]
    rfl
  · rw [if_neg (by omega), if_neg (by omega), IntWalk.u8_in 0 (by omega)]
    obtain ⟨j, rfl⟩ : ∃ j, i = j + 1 := ⟨i - 1, by omega⟩
    rw [List.set_cons_succ]
    congr 1
    rw [List.ext_getElem?_iff]
    intro k
    rw [List.getElem?_set]
    split
    · rename_i hk; subst hk
      rw [List.getElem?_replicate]; simp
    · rfl
theorem name_ok (n : Int) (h0 : 0 ≤ n ∧ n < 256) : AC Try.prog 87 [.int .i64 n] [] (fun r hp' => r = .agg [.ints .u8 32 (nameL n)] ∧ hp' = []) := by
  refine AC.left (AC.body tokT Try.func87 rfl rfl rfl (by decide) (by rfl) ?_)
  refine AW.pre tokT (fun _ => true) ?_; (conv => whnf)
  refine AW.pre tokT (fun _ => true) ?_; (conv => whnf)
  (refine AW.turnL [0, 1] [(0, .int .i64 n), (2, .ptr 0 0 0 0), (3, .ptr 1 0 0 0)] [⟨32, false, none, .var [.ints .u8 32 (List.replicate 32 0)]⟩, ⟨32, false, none, .var [.ints .u8 32 (List.replicate 32 0)]⟩] (by rfl) (by rfl) (by rfl) (by (repeat' (first | exact True.intro | exact rfl | refine And.intro ?_ ?_ | (simp [AV.ren, AV.rens, AObj.ren, Ent.ren, AV.inn, AV.inns, AObj.inn, *]; done)))) (by (repeat' (first | exact True.intro | exact rfl | refine And.intro ?_ ?_ | (simp [AV.ren, AV.rens, AObj.ren, Ent.ren, AV.inn, AV.inns, AObj.inn, *]; done)))) ?_)
  refine AW.cutT (fun fr hp => fr = [(2, .ptr 0 0 0 0), (3, .ptr 1 0 0 0)] ∧ hp = [⟨32, false, none, .var [.ints .u8 32 (List.replicate 32 0)]⟩, ⟨32, false, none, .var [.ints .u8 32 (n :: List.replicate 31 0)]⟩]) ?_ ?_
  · refine AW.pre tokT (fun _ => true) ?_; (conv => whnf)
    refine AW.block ?_
    refine AW.loop (fun q fr hp => ∃ i : Nat, q = 8 - i ∧ i ≤ 8 ∧ fr = [(0, .int .i64 n), (2, .ptr 0 0 0 0), (3, .ptr 1 0 0 0), (4, .int .i64 (i : Int))] ∧ hp = [⟨32, false, none, .var [.ints .u8 32 (List.replicate 32 0)]⟩, ⟨32, false, none, .var [.ints .u8 32 (nmC n i)]⟩]) 8 ?_ ?_
    · exact ⟨0, rfl, by omega, rfl, by unfold nmC; rfl⟩
    · rintro q fr hp ⟨i, rfl, hi, rfl, rfl⟩ -
      refine AW.post ?_
      refine ev_sound tokT (keep := fun _ => true) ?_
      (conv => whnf); (cases hlt : (decide ((↑i : Int) < 8) : Bool) <;> (try simp only [beq_iff_eq, beq_eq_false_iff_ne, ne_eq, decide_eq_true_eq, decide_eq_false_iff_not, bne_iff_ne, bne_eq_false_iff_eq, Bool.not_eq_true, Bool.not_eq_false, gt_iff_lt, ge_iff_le] at hlt) <;> (try (exfalso; omega)))
      case' false =>
        (conv => whnf)
        have he : i = 8 := by omega
        subst he
        have hc : nmC n 8 = n :: List.replicate 31 0 := by unfold nmC; rfl
        rw [hc]
        (refine Turned.of [0, 1] [(2, .ptr 0 0 0 0), (3, .ptr 1 0 0 0)] [⟨32, false, none, .var [.ints .u8 32 (List.replicate 32 0)]⟩, ⟨32, false, none, .var [.ints .u8 32 (n :: List.replicate 31 0)]⟩] (by rfl) (by rfl) (by rfl) (by (repeat' (first | exact True.intro | exact rfl | refine And.intro ?_ ?_ | (simp [AV.ren, AV.rens, AObj.ren, Ent.ren, AV.inn, AV.inns, AObj.inn, *]; done)))) (by (repeat' (first | exact True.intro | exact rfl | refine And.intro ?_ ?_ | (simp [AV.ren, AV.rens, AObj.ren, Ent.ren, AV.inn, AV.inns, AObj.inn, *]; done)))) ?_)
        exact ⟨rfl, rfl⟩
      ((conv => whnf); (repeat (((refine And.intro (by first | omega | ((repeat (first | rw [IntWalk.i64_in _ (by omega)] | rw [IntWalk.u8_in _ (by omega)] | rw [IntWalk.u32_in _ (by omega)] | rw [IntWalk.u64_in _ (by omega)])); omega)) ?_); (conv => whnf)))))
      rw [nmC_set n i h0 (by omega), IntWalk.i64_in ((i : Int) + 1) (by omega)]
      (refine Turned.of [0, 1] [(0, .int .i64 n), (2, .ptr 0 0 0 0), (3, .ptr 1 0 0 0), (4, .int .i64 ((i + 1 : Nat) : Int))] [⟨32, false, none, .var [.ints .u8 32 (List.replicate 32 0)]⟩, ⟨32, false, none, .var [.ints .u8 32 (nmC n (i + 1))]⟩] (by rfl) (by rfl) (by rfl) (by (repeat' (first | exact True.intro | exact rfl | refine And.intro ?_ ?_ | (simp [AV.ren, AV.rens, AObj.ren, Ent.ren, AV.inn, AV.inns, AObj.inn, *]; done)))) (by (repeat' (first | exact True.intro | exact rfl | refine And.intro ?_ ?_ | (simp [AV.ren, AV.rens, AObj.ren, Ent.ren, AV.inn, AV.inns, AObj.inn, *]; done)))) ?_)
      exact ⟨8 - (i + 1), by omega, i + 1, rfl, by omega, rfl, rfl⟩
  rintro fr hp ⟨rfl, rfl⟩
  refine ev_sound tokT (keep := fun _ => true) ?_
  ((conv => whnf); (repeat (((refine And.intro (by omega) ?_); (conv => whnf)))))
  (refine Left.of [] (.agg [.ints .u8 32 (nameL n)]) [] (by rfl) (by rfl) (by rfl) (by (repeat' (first | exact True.intro | refine And.intro ?_ ?_))) (by rfl) (by (repeat' (first | exact True.intro | refine And.intro ?_ ?_))) ?_)
  exact ⟨rfl, rfl⟩
end Go.Aw
