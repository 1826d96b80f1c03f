/-
  AwSh3: sha's stir: all rounds of a block. Own work.
-/
import Derived.Test.YtdababcblhbpeaaAwSh2
set_option linter.unusedVariables false
set_option linter.unusedSimpArgs false
set_option maxRecDepth 20000
open Go.Proofs
namespace Go.Aw
attribute [local irreducible] andI orI xorI shlI shrI

theorem mixed_ok' : Try.prog.follows .mixedOrders = true := by kernel_rfl

theorem sch_prefix (m : List W32) (n k j : Nat) (h : j < m.length + n) : (sch m (n + k)).getD j 0 = (sch m n).getD j 0 := by
  induction k with
  | zero => rfl
  | succ k ih =>
    rw [← ih, ← Nat.add_assoc]
    simp only [sch, List.getD_eq_getElem?_getD]
    rw [List.getElem?_append_left (by rw [sch_length]; omega)]
/-- the words as they stand ahead of round i -/
def wsI (m : List W32) (i : Nat) : List Int := (sch m (i - 16)).map wI ++ List.replicate (48 - (i - 16)) 0
theorem wsI_length (m : List W32) (hm : m.length = 16) (i : Nat) (hi : i ≤ 64) : (wsI m i).length = 64 := by
  simp [wsI, sch_length, hm]; omega
theorem wsI_get (m : List W32) (hm : m.length = 16) {i j : Nat} (hi : i ≤ 64) (h : j < i ∨ j < 16) : (wsI m i).getD j 0 = wI ((sch m 48).getD j 0) := by
  have hj : j < 16 + (i - 16) := by omega
  unfold wsI
  rw [List.getD_eq_getElem?_getD, List.getElem?_append_left (by simp [sch_length, hm]; omega), List.getElem?_map]
  have := sch_prefix m (i - 16) (48 - (i - 16)) j (by omega)
  rw [show i - 16 + (48 - (i - 16)) = 48 by omega] at this
  rw [this, List.getD_eq_getElem?_getD, List.getElem?_eq_getElem (by rw [sch_length]; omega)]
  rfl
theorem wsI_set (m : List W32) (hm : m.length = 16) {i : Nat} (h0 : 16 ≤ i) (h1 : i < 64) : (wsI m i).set i (wI (nextW (sch m 48) i)) = wsI m (i + 1) := by
  have e1 : nextW (sch m 48) i = nextW (sch m (i - 16)) i := by
    have g : ∀ j, j < i → (sch m 48).getD j 0 = (sch m (i - 16)).getD j 0 := by
      intro j hj
      have := sch_prefix m (i - 16) (48 - (i - 16)) j (by omega)
      rwa [show i - 16 + (48 - (i - 16)) = 48 by omega] at this
    unfold nextW
    rw [g _ (by omega), g _ (by omega), g _ (by omega), g _ (by omega)]
  rw [e1]
  unfold wsI
  rw [show i + 1 - 16 = (i - 16) + 1 by omega]
  simp only [sch, List.map_append, List.map_cons, List.map_nil]
  rw [List.set_append_right _ _ (by simp [sch_length, hm]; omega)]
  rw [show 16 + (i - 16) = i by omega, List.append_assoc]
  congr 1
  have : i - (List.map wI (sch m (i - 16))).length = 0 := by simp [sch_length, hm]; omega
  rw [this, show 48 - (i - 16) = (48 - (i - 16 + 1)) + 1 by omega, List.replicate_succ]
  rfl
theorem kT_get (i : Nat) : (kT.map Int.ofNat).getD i 0 = wI (kW i) := by
  have hlt : ∀ x ∈ kT, x < 4294967296 := by decide
  unfold kW wI
  rw [List.getD_eq_getElem?_getD, List.getElem?_map, BitVec.toNat_ofNat, List.getD_eq_getElem?_getD]
  rcases Nat.lt_or_ge i kT.length with h | h
  · rw [List.getElem?_eq_getElem h]
    simp only [Option.map_some, Option.getD_some]
    rw [Nat.mod_eq_of_lt (hlt _ (List.getElem_mem _))]; rfl
  · rw [List.getElem?_eq_none h]; rfl
theorem sch_next (m : List W32) (hm : m.length = 16) (i : Nat) (h0 : 16 ≤ i) (h1 : i < 64) : (sch m 48).getD i 0 = nextW (sch m 48) i := by
  have h := wsI_get m hm (i := i + 1) (j := i) (by omega) (by omega)
  rw [← wsI_set m hm h0 h1] at h
  rw [List.getD_eq_getElem?_getD, List.getElem?_set_self (by rw [wsI_length m hm i (by omega)]; omega)] at h
  exact (wI_inj h).symm

def sumO (s : St) (ws : List Int) (h n : Int) : AObj := .var [.ints .u32 8 s.l, .ints .u32 64 ws, .int .i64 h, .int .u64 n]
def roundF (t : St) (i : Int) : Fr := [(0, .ptr 0 0 0 0), (2, .ptr 1 0 0 0), (3, .int .u32 (wI t.a)), (4, .int .u32 (wI t.b)), (5, .int .u32 (wI t.c)), (6, .int .u32 (wI t.d)), (7, .int .u32 (wI t.e)), (8, .int .u32 (wI t.f)), (9, .int .u32 (wI t.g)), (10, .int .u32 (wI t.h)), (11, .int .i64 i)]

/-- the state, some of its words added to -/
def hsI (s e : St) (i : Nat) : List Int := (s.add e).l.take i ++ s.l.drop i
theorem hsI_get (s e : St) {i : Nat} (h : i < 8) : (hsI s e i).getD i 0 = s.l.getD i 0 := by
  unfold hsI
  rw [List.getD_eq_getElem?_getD, List.getElem?_append_right (by simp [St.l]; omega)]
  have : i - ((s.add e).l.take i).length = 0 := by simp [St.l]; omega
  rw [this, List.getElem?_drop, List.getD_eq_getElem?_getD]; rfl
theorem hsI_set (s e : St) {i : Nat} (h : i < 8) : (hsI s e i).set i (IntKind.u32.wrap (s.l.getD i 0 + e.l.getD i 0)) = hsI s e (i + 1) := by
  have : i = 0 ∨ i = 1 ∨ i = 2 ∨ i = 3 ∨ i = 4 ∨ i = 5 ∨ i = 6 ∨ i = 7 := by omega
  rcases this with rfl | rfl | rfl | rfl | rfl | rfl | rfl | rfl <;> simp [hsI, St.l, St.add, w_add]

set_option maxHeartbeats 1000000 in
theorem stir_ok (s : St) (m : List W32) (hm : m.length = 16) (h n : Int) :
    AC Try.prog 108 [.ptr 0 0 0 0] [⟨74, false, none, .var [.ints .u32 8 s.l, .ints .u32 64 (wsI m 0), .int .i64 h, .int .u64 n]⟩]
      (fun r hp' => r = .tup [] ∧ hp' = [⟨74, false, none, .var [.ints .u32 8 (compr s m).l, .ints .u32 64 (List.replicate 64 0), .int .i64 0, .int .u64 n]⟩]) := by
  refine AC.left (AC.body tokT Try.func108 rfl rfl rfl (by decide) (by rfl) ?_)
  refine AW.scopeBack 0 (by rfl) (fun q fr hp => ∃ i, q = 64 - i ∧ i < 64 ∧ fr = roundF (sts s (sch m 48) i) i ∧
    hp = [⟨74, false, none, .var [.ints .u32 8 s.l, .ints .u32 64 (wsI m i), .int .i64 h, .int .u64 n]⟩, ⟨64, false, none, .var [.ints .u32 64 (kT.map Int.ofNat)]⟩]) ?_ ?_
  · rintro q fr hp ⟨i, rfl, hi, rfl, rfl⟩
    refine AW.postG ?_
    have hws := wsI_length m hm i (by omega)
    refine AW.cutT (fun fr hp => fr = roundF (sts s (sch m 48) i) i ∧
      hp = [⟨74, false, none, .var [.ints .u32 8 s.l, .ints .u32 64 (wsI m (i + 1)), .int .i64 h, .int .u64 n]⟩, ⟨64, false, none, .var [.ints .u32 64 (kT.map Int.ofNat)]⟩]) ?_ ?_
    · have ix : ∀ q : Nat, q ≤ 16 → 16 ≤ i → (IntKind.i64.wrap ((i : Int) - (q : Int))).toNat = i - q := fun q h1 h2 => by rw [IntWalk.i64_in _ (by omega)]; omega
      refine AW.pre tokT (fun _ => true) ?_; (conv => whnf)
      refine ev_sound tokT (keep := fun _ => true) ?_
      (conv => whnf); (cases h16 : (decide ((↑i : Int) ≥ 16) : Bool) <;> (try simp only [beq_iff_eq, beq_eq_false_iff_ne, ne_eq, decide_eq_true_eq, decide_eq_false_iff_not, bne_iff_ne, bne_eq_false_iff_eq, Bool.not_eq_true, Bool.not_eq_false, gt_iff_lt, ge_iff_le] at h16) <;> (try (exfalso; omega)))
      case' false =>
        (conv => whnf)
        rw [show wsI m (i + 1) = wsI m i by unfold wsI; rw [show i + 1 - 16 = i - 16 by omega]]
        (refine Turned.of [0, 1] (roundF (sts s (sch m 48) i) i) [⟨74, false, none, .var [.ints .u32 8 s.l, .ints .u32 64 (wsI m i), .int .i64 h, .int .u64 n]⟩, ⟨64, false, none, .var [.ints .u32 64 (kT.map Int.ofNat)]⟩] (by rfl) (by rfl) (by rfl) (by (repeat' (first | exact True.intro | exact rfl | refine And.intro ?_ ?_ | (simp [AV.ren, AV.rens, AObj.ren, Ent.ren, AV.inn, AV.inns, AObj.inn, *]; done)))) (by (repeat' (first | exact True.intro | exact rfl | refine And.intro ?_ ?_ | (simp [AV.ren, AV.rens, AObj.ren, Ent.ren, AV.inn, AV.inns, AObj.inn, *]; done)))) ?_)
        exact ⟨rfl, rfl⟩
      (conv => whnf)
      have e15 : (IntKind.i64.wrap ((i : Int) - 15)).toNat = i - 15 := ix 15 (by omega) (by omega)
      have e2 : (IntKind.i64.wrap ((i : Int) - 2)).toNat = i - 2 := ix 2 (by omega) (by omega)
      have e16 : (IntKind.i64.wrap ((i : Int) - 16)).toNat = i - 16 := ix 16 (by omega) (by omega)
      have e7 : (IntKind.i64.wrap ((i : Int) - 7)).toNat = i - 7 := ix 7 (by omega) (by omega)
      have g15 := wsI_get m hm (i := i) (j := i - 15) (by omega) (by omega)
      have g2 := wsI_get m hm (i := i) (j := i - 2) (by omega) (by omega)
      have g16 := wsI_get m hm (i := i) (j := i - 16) (by omega) (by omega)
      have g7 := wsI_get m hm (i := i) (j := i - 7) (by omega) (by omega)
      refine AW.draw [(false, 0), (false, 1), (false, 2), (false, 3), (false, 4), (false, 5), (false, 6), (false, 7), (false, 8), (false, 9), (false, 10), (false, 11), (false, 12), (false, 13), (false, 14), (false, 15), (false, 18), (false, 19), (false, 20), (false, 21), (false, 22), (false, 23), (false, 24), (false, 26), (false, 27), (false, 28), (false, 29), (false, 30), (false, 31), (false, 32), (false, 35), (false, 36), (true, 16), (false, 17), (false, 25), (true, 33), (false, 34), (false, 37), (true, 38)] (keep := fun _ => true) mixed_ok' tokT (by kernel_rfl) (by kernel_rfl) ?_
      ((conv => whnf); (repeat (((refine Exists.intro _ (And.intro (by ((conv => whnf); (repeat ((refine And.intro (by first | exact rfl | omega | ((repeat (first | rw [IntWalk.i64_in _ (by omega)] | rw [IntWalk.u8_in _ (by omega)] | rw [IntWalk.u32_in _ (by omega)] | rw [IntWalk.u64_in _ (by omega)])); omega)) ?_); (conv => whnf))))) ?_)); (conv => whnf)))))
      refine AC.frame (three_ok ((sch m 48).getD (i - 15) 0) 7 18 3 true (by omega) (by omega) (by omega) (by omega) (by omega) (by omega)) [] (by (repeat' (exact True.intro))) (by rfl) (by (repeat' (first | exact True.intro | refine And.intro ?_ ?_))) (by rw [e15, g15]; rfl) ?_
      rintro r0 hp0 ⟨rfl, rfl⟩
      ((conv => whnf); (repeat (first | ((with_reducible (refine And.intro (show Go.Aw.againsK _ _ _ _ _ from ?_) ?_)); (focus (repeat' (first | ((with_reducible (show Go.Aw.againsK _ _ _ _ _)); (conv => whnf)) | ((with_reducible (show Go.Aw.againK _ _ _ _ _)); (conv => whnf)) | (with_reducible (exact True.intro)) | (with_reducible (refine And.intro ?_ ?_)) | exact rfl | omega | ((repeat (first | rw [IntWalk.i64_in _ (by omega)] | rw [IntWalk.u8_in _ (by omega)] | rw [IntWalk.u32_in _ (by omega)] | rw [IntWalk.u64_in _ (by omega)])); omega)))); (conv => whnf)) | ((refine Exists.intro _ (And.intro (by ((conv => whnf); (repeat ((refine And.intro (by exact rfl) ?_); (conv => whnf))))) ?_)); (conv => whnf)))))
      refine AC.frame (three_ok ((sch m 48).getD (i - 2) 0) 17 19 10 true (by omega) (by omega) (by omega) (by omega) (by omega) (by omega)) [] (by (repeat' (exact True.intro))) (by rfl) (by (repeat' (first | exact True.intro | refine And.intro ?_ ?_))) (by rw [e2, g2]; rfl) ?_
      rintro r0 hp0 ⟨rfl, rfl⟩
      ((conv => whnf); (repeat (first | ((with_reducible (refine And.intro (show Go.Aw.againsK _ _ _ _ _ from ?_) ?_)); (focus (repeat' (first | ((with_reducible (show Go.Aw.againsK _ _ _ _ _)); (conv => whnf)) | ((with_reducible (show Go.Aw.againK _ _ _ _ _)); (conv => whnf)) | (with_reducible (exact True.intro)) | (with_reducible (refine And.intro ?_ ?_)) | exact rfl | omega | ((repeat (first | rw [IntWalk.i64_in _ (by omega)] | rw [IntWalk.u8_in _ (by omega)] | rw [IntWalk.u32_in _ (by omega)] | rw [IntWalk.u64_in _ (by omega)])); omega)))); (conv => whnf)) | ((refine And.intro (by assumption) ?_); (conv => whnf)) | ((refine Exists.intro _ (And.intro (by ((conv => whnf); (repeat ((refine And.intro (by first | exact rfl | omega) ?_); (conv => whnf))))) ?_)); (conv => whnf)))))
      rw [e16, g16, e7, g7]
      rw [w_add, w_add, w_add, show (i : Int).toNat = i by simp]
      rw [show (sch m 48).getD (i - 16) 0 + threeW ((sch m 48).getD (i - 15) 0) 7 18 3 true + (sch m 48).getD (i - 7) 0 + threeW ((sch m 48).getD (i - 2) 0) 17 19 10 true = nextW (sch m 48) i from rfl]
      rw [wsI_set m hm (by omega) hi]
      (refine Turned.of [0, 1] (roundF (sts s (sch m 48) i) i) [⟨74, false, none, .var [.ints .u32 8 s.l, .ints .u32 64 (wsI m (i + 1)), .int .i64 h, .int .u64 n]⟩, ⟨64, false, none, .var [.ints .u32 64 (kT.map Int.ofNat)]⟩] (by rfl) (by rfl) (by rfl) (by (repeat' (first | exact True.intro | exact rfl | refine And.intro ?_ ?_ | (simp [AV.ren, AV.rens, AObj.ren, Ent.ren, AV.inn, AV.inns, AObj.inn, *]; done)))) (by (repeat' (first | exact True.intro | exact rfl | refine And.intro ?_ ?_ | (simp [AV.ren, AV.rens, AObj.ren, Ent.ren, AV.inn, AV.inns, AObj.inn, *]; done)))) ?_)
      exact ⟨rfl, rfl⟩
    · rintro fr hp ⟨rfl, rfl⟩
      obtain ⟨t, ht⟩ : ∃ t, sts s (sch m 48) i = t := ⟨_, rfl⟩
      rw [ht]
      refine AW.seq (AW.draw [(false, 0), (false, 1), (false, 4), (false, 5), (false, 6), (false, 7), (false, 8), (false, 9), (false, 10), (false, 12), (false, 13), (false, 14), (false, 16), (false, 17), (false, 18), (false, 19), (false, 20), (false, 21), (true, 2), (false, 3), (false, 11), (false, 15), (false, 22), (false, 23)] (keep := fun _ => true) mixed_ok' tokT (by kernel_rfl) (by kernel_rfl) ?_)
      ((conv => whnf); (repeat (((refine Exists.intro _ (And.intro (by ((conv => whnf); (repeat ((refine And.intro (by first | exact rfl | assumption | omega) ?_); (conv => whnf))))) ?_)); (conv => whnf)))))
      refine AC.frame (three_ok _ 6 11 25 false (by omega) (by omega) (by omega) (by omega) (by omega) (by omega)) [] (by (repeat' (exact True.intro))) (by rfl) (by (repeat' (first | exact True.intro | refine And.intro ?_ ?_))) (by rfl) ?_
      rintro r0 hp0 ⟨rfl, rfl⟩
      have gk := kT_get i
      have gw := wsI_get m hm (i := i + 1) (j := i) (by omega) (by omega)
      ((conv => whnf); (repeat (first | ((with_reducible (refine And.intro (show Go.Aw.againsK _ _ _ _ _ from ?_) ?_)); (focus (repeat' (first | ((with_reducible (show Go.Aw.againsK _ _ _ _ _)); (conv => whnf)) | ((with_reducible (show Go.Aw.againK _ _ _ _ _)); (conv => whnf)) | (with_reducible (exact True.intro)) | (with_reducible (refine And.intro ?_ ?_)) | exact rfl | assumption | omega))); (conv => whnf)) | ((refine Exists.intro _ (And.intro (by ((conv => whnf); (repeat ((refine And.intro (by exact rfl) ?_); (conv => whnf))))) ?_)); (conv => whnf)))))
      rw [show (i : Int).toNat = i by simp, gk, gw, w_xor, w_and, w_xor, w_add, w_add, w_add, w_add]
      obtain ⟨U, hU⟩ : ∃ U, t.h + threeW t.e 6 11 25 false + (t.g ^^^ t.e &&& (t.f ^^^ t.g)) + kW i + (sch m 48).getD i 0 = U := ⟨_, rfl⟩
      rw [hU]
      (conv => whnf)
      (refine AW.turnL [0, 1] (roundF t i ++ [(12, .int .u32 (wI U))]) [⟨74, false, none, .var [.ints .u32 8 s.l, .ints .u32 64 (wsI m (i + 1)), .int .i64 h, .int .u64 n]⟩, ⟨64, false, none, .var [.ints .u32 64 (kT.map Int.ofNat)]⟩] (by rfl) (by rfl) (by rfl) (by (repeat' (first | exact True.intro | exact rfl | refine And.intro ?_ ?_ | (simp [AV.ren, AV.rens, AObj.ren, Ent.ren, AV.inn, AV.inns, AObj.inn, *]; done)))) (by (repeat' (first | exact True.intro | exact rfl | refine And.intro ?_ ?_ | (simp [AV.ren, AV.rens, AObj.ren, Ent.ren, AV.inn, AV.inns, AObj.inn, *]; done)))) ?_)
      refine AW.pre tokT (fun _ => true) ?_; (conv => whnf)
      refine AC.frame (three_ok _ 2 13 22 false (by omega) (by omega) (by omega) (by omega) (by omega) (by omega)) [] (by (repeat' (exact True.intro))) (by rfl) (by (repeat' (first | exact True.intro | refine And.intro ?_ ?_))) (by rfl) ?_
      rintro r0 hp0 ⟨rfl, rfl⟩
      (conv => whnf)
      rw [w_and, w_or, w_and, w_or, w_add]
      obtain ⟨D, hD⟩ : ∃ D, threeW t.a 2 13 22 false + (t.a &&& t.b ||| t.c &&& (t.a ||| t.b)) = D := ⟨_, rfl⟩
      rw [hD]
      (conv => whnf)
      refine AW.pre tokT (fun _ => true) ?_; (conv => whnf)
      rw [w_add, w_add]
      have hst : sts s (sch m 48) (i + 1) = ⟨U + D, t.a, t.b, t.c, t.d + U, t.e, t.f, t.g⟩ := by
        simp only [sts, ht, rnd]
        rw [← hU, ← hD]; rfl
      (refine AW.turnL [0, 1] (roundF ⟨U + D, t.a, t.b, t.c, t.d + U, t.e, t.f, t.g⟩ i) [⟨74, false, none, .var [.ints .u32 8 s.l, .ints .u32 64 (wsI m (i + 1)), .int .i64 h, .int .u64 n]⟩, ⟨64, false, none, .var [.ints .u32 64 (kT.map Int.ofNat)]⟩] (by rfl) (by rfl) (by rfl) (by (repeat' (first | exact True.intro | exact rfl | refine And.intro ?_ ?_ | (simp [AV.ren, AV.rens, AObj.ren, Ent.ren, AV.inn, AV.inns, AObj.inn, *]; done)))) (by (repeat' (first | exact True.intro | exact rfl | refine And.intro ?_ ?_ | (simp [AV.ren, AV.rens, AObj.ren, Ent.ren, AV.inn, AV.inns, AObj.inn, *]; done)))) ?_)
      rw [← hst]
      refine AW.pre tokT (fun _ => true) ?_; (conv => whnf)
      rw [IntWalk.i64_in _ (by omega)]
      (cases hlt : (decide ((↑i : Int) + 1 < 64) : Bool) <;> (try simp only [beq_iff_eq, beq_eq_false_iff_ne, ne_eq, decide_eq_true_eq, decide_eq_false_iff_not, bne_iff_ne, bne_eq_false_iff_eq, Bool.not_eq_true, Bool.not_eq_false, gt_iff_lt, ge_iff_le] at hlt) <;> (try (exfalso; omega)))
      case' true =>
        (conv => whnf)
        (refine Turned.of [0, 1] (roundF (sts s (sch m 48) (i + 1)) ((i + 1 : Nat) : Int)) [⟨74, false, none, .var [.ints .u32 8 s.l, .ints .u32 64 (wsI m (i + 1)), .int .i64 h, .int .u64 n]⟩, ⟨64, false, none, .var [.ints .u32 64 (kT.map Int.ofNat)]⟩] (by rfl) (by rfl) (by rfl) (by (repeat' (first | exact True.intro | exact rfl | refine And.intro ?_ ?_ | (simp [AV.ren, AV.rens, AObj.ren, Ent.ren, AV.inn, AV.inns, AObj.inn, *]; done)))) (by (repeat' (first | exact True.intro | exact rfl | refine And.intro ?_ ?_ | (simp [AV.ren, AV.rens, AObj.ren, Ent.ren, AV.inn, AV.inns, AObj.inn, *]; done)))) ?_)
        exact ⟨64 - (i + 1), by omega, i + 1, rfl, by omega, rfl, rfl⟩
      (conv => whnf)
      have hi64 : i + 1 = 64 := by omega
      rw [hi64]
      obtain ⟨e, he⟩ : ∃ e, sts s (sch m 48) 64 = e := ⟨_, rfl⟩
      rw [he]
      (refine AW.turnL [0] [(0, .ptr 0 0 0 0), (3, .int .u32 (wI e.a)), (4, .int .u32 (wI e.b)), (5, .int .u32 (wI e.c)), (6, .int .u32 (wI e.d)), (7, .int .u32 (wI e.e)), (8, .int .u32 (wI e.f)), (9, .int .u32 (wI e.g)), (10, .int .u32 (wI e.h))] [⟨74, false, none, .var [.ints .u32 8 s.l, .ints .u32 64 (wsI m 64), .int .i64 h, .int .u64 n]⟩] (by rfl) (by rfl) (by rfl) (by (repeat' (first | exact True.intro | exact rfl | refine And.intro ?_ ?_ | (simp [AV.ren, AV.rens, AObj.ren, Ent.ren, AV.inn, AV.inns, AObj.inn, *]; done)))) (by (repeat' (first | exact True.intro | exact rfl | refine And.intro ?_ ?_ | (simp [AV.ren, AV.rens, AObj.ren, Ent.ren, AV.inn, AV.inns, AObj.inn, *]; done)))) ?_)
      refine AW.cutT (fun fr hp => fr = [(0, .ptr 0 0 0 0)] ∧ hp = [⟨74, false, none, .var [.ints .u32 8 (s.add e).l, .ints .u32 64 (wsI m 64), .int .i64 h, .int .u64 n]⟩]) ?_ ?_
      · refine AW.pre tokT (fun _ => true) ?_; (conv => whnf)
        refine AW.block ?_
        (refine AW.turnL [0, 1] [(0, .ptr 0 0 0 0), (156, .sl 1 0 8 (some 8)), (157, .int .i64 8), (158, .int .i64 0)] [⟨74, false, none, .var [.ints .u32 8 s.l, .ints .u32 64 (wsI m 64), .int .i64 h, .int .u64 n]⟩, ⟨1, false, none, .ints .u32 e.l⟩] (by rfl) (by rfl) (by rfl) (by (repeat' (first | exact True.intro | exact rfl | refine And.intro ?_ ?_ | (simp [AV.ren, AV.rens, AObj.ren, Ent.ren, AV.inn, AV.inns, AObj.inn, *]; done)))) (by (repeat' (first | exact True.intro | exact rfl | refine And.intro ?_ ?_ | (simp [AV.ren, AV.rens, AObj.ren, Ent.ren, AV.inn, AV.inns, AObj.inn, *]; done)))) ?_)
        refine AW.loop (fun q fr hp => ∃ (j : Nat), q = 8 - j ∧ j ≤ 8 ∧ fr = [(0, .ptr 0 0 0 0), (156, .sl 1 0 8 (some 8)), (157, .int .i64 8), (158, .int .i64 j)] ∧
          hp = [⟨74, false, none, .var [.ints .u32 8 (hsI s e j), .ints .u32 64 (wsI m 64), .int .i64 h, .int .u64 n]⟩, ⟨1, false, none, .ints .u32 e.l⟩]) 8 ?_ ?_
        · exact ⟨0, rfl, by omega, rfl, rfl⟩
        · rintro q fr hp ⟨j, rfl, hj, rfl, rfl⟩ -
          refine AW.post ?_
          refine ev_sound tokT (keep := fun _ => true) ?_
          (conv => whnf); (cases hlt : (decide ((↑j : Int) < 8) : Bool) <;> (try simp only [beq_iff_eq, beq_eq_false_iff_ne, ne_eq, decide_eq_true_eq, decide_eq_false_iff_not, bne_iff_ne, bne_eq_false_iff_eq, Bool.not_eq_true, Bool.not_eq_false, gt_iff_lt, ge_iff_le] at hlt) <;> (try (exfalso; omega)))
          case' false =>
            (conv => whnf)
            have : j = 8 := by omega
            subst this
            (refine Turned.of [0] [(0, .ptr 0 0 0 0)] [⟨74, false, none, .var [.ints .u32 8 (s.add e).l, .ints .u32 64 (wsI m 64), .int .i64 h, .int .u64 n]⟩] (by rfl) (by rfl) (by rfl) (by (repeat' (first | exact True.intro | exact rfl | refine And.intro ?_ ?_ | (simp [AV.ren, AV.rens, AObj.ren, Ent.ren, AV.inn, AV.inns, AObj.inn, *]; done)))) (by (repeat' (first | exact True.intro | exact rfl | refine And.intro ?_ ?_ | (simp [AV.ren, AV.rens, AObj.ren, Ent.ren, AV.inn, AV.inns, AObj.inn, *]; done)))) ?_)
            exact ⟨rfl, rfl⟩
          have hj8 : j < 8 := by omega
          have hel : j < e.l.length := by simp [St.l]; omega
          have hget := hsI_get s e hj8
          have hset := hsI_set s e hj8
          ((conv => whnf); (repeat (((refine And.intro (by first | assumption | omega) ?_); (conv => whnf)))))
          refine AW.draw [(false, 0), (false, 1), (false, 2), (false, 3), (false, 4), (false, 5), (false, 6), (false, 7), (false, 8), (false, 9), (false, 10), (true, 11)] (keep := fun _ => true) mixed_ok' tokT (by kernel_rfl) (by kernel_rfl) ?_
          ((conv => whnf); (repeat (first | ((with_reducible (refine And.intro (show Go.Aw.againsK _ _ _ _ _ from ?_) ?_)); (focus (repeat' (first | ((with_reducible (show Go.Aw.againsK _ _ _ _ _)); (conv => whnf)) | ((with_reducible (show Go.Aw.againK _ _ _ _ _)); (conv => whnf)) | (with_reducible (exact True.intro)) | (with_reducible (refine And.intro ?_ ?_)) | exact rfl))); (conv => whnf)) | ((refine And.intro (by assumption) ?_); (conv => whnf)) | ((refine Exists.intro _ (And.intro (by ((conv => whnf); (repeat ((refine And.intro (by first | exact rfl | assumption | omega) ?_); (conv => whnf))))) ?_)); (conv => whnf)))))
          rw [show (j : Int).toNat = j by simp, show 0 + j = j by omega, hget, hset]
          rw [IntWalk.i64_in _ (by omega)]
          (refine Turned.of [0, 1] [(0, .ptr 0 0 0 0), (156, .sl 1 0 8 (some 8)), (157, .int .i64 8), (158, .int .i64 ((j + 1 : Nat) : Int))] [⟨74, false, none, .var [.ints .u32 8 (hsI s e (j + 1)), .ints .u32 64 (wsI m 64), .int .i64 h, .int .u64 n]⟩, ⟨1, false, none, .ints .u32 e.l⟩] (by rfl) (by rfl) (by rfl) (by (repeat' (first | exact True.intro | exact rfl | refine And.intro ?_ ?_ | (simp [AV.ren, AV.rens, AObj.ren, Ent.ren, AV.inn, AV.inns, AObj.inn, *]; done)))) (by (repeat' (first | exact True.intro | exact rfl | refine And.intro ?_ ?_ | (simp [AV.ren, AV.rens, AObj.ren, Ent.ren, AV.inn, AV.inns, AObj.inn, *]; done)))) ?_)
          exact ⟨8 - (j + 1), by omega, j + 1, rfl, by omega, rfl, rfl⟩
      · rintro fr hp ⟨rfl, rfl⟩
        refine ev_sound tokT (keep := fun _ => true) ?_
        (conv => whnf)
        (refine Left.of [0] (.tup []) [⟨74, false, none, .var [.ints .u32 8 (s.add e).l, .ints .u32 64 (List.replicate 64 0), .int .i64 0, .int .u64 n]⟩] (by rfl) (by rfl) (by rfl) (by (repeat' (first | exact True.intro | exact rfl | refine And.intro ?_ ?_))) (by rfl) (by (repeat' (first | exact True.intro | exact rfl | refine And.intro ?_ ?_))) ?_)
        refine ⟨rfl, ?_⟩
        unfold compr
        rw [he]
  · intro hr
    refine AW.pre tokT (fun _ => true) ?_; (conv => whnf)
    refine AC.frame roots_ok [] (by (repeat' (exact True.intro))) (by rfl) (by (repeat' (exact True.intro))) (by rfl) ?_
    rintro r0 hp0 ⟨rfl, rfl⟩
    (conv => whnf)
    refine AW.seq (AW.draw [(false, 0), (false, 1), (false, 2), (false, 3), (false, 4), (false, 5), (false, 6), (false, 7), (false, 8), (false, 9), (false, 10), (false, 11), (false, 12), (false, 13), (false, 14), (false, 15), (false, 16), (false, 17), (false, 18), (false, 19), (false, 20), (false, 21), (false, 22), (false, 23), (false, 24), (false, 25), (false, 26), (false, 27), (false, 28), (false, 29), (false, 30), (false, 31), (false, 32), (false, 33), (false, 34), (false, 35), (false, 36), (false, 37), (false, 38), (false, 39), (false, 40), (false, 41), (false, 42), (false, 43), (false, 44), (false, 45), (false, 46), (false, 47)]
        (keep := fun _ => true) mixed_ok' tokT (by kernel_rfl) (by kernel_rfl) ?_)
    ((conv => whnf); (repeat (((refine Exists.intro _ (And.intro (by ((conv => whnf); (repeat ((refine And.intro (by first | exact rfl | omega) ?_); (conv => whnf))))) ?_)); (conv => whnf)))))
    refine AW.pre tokT (fun _ => true) ?_; (conv => whnf)
    refine AW.pre tokT (fun _ => true) ?_; (conv => whnf)
    (refine AW.turnL [0, 1] (roundF s 0) [⟨74, false, none, .var [.ints .u32 8 s.l, .ints .u32 64 (wsI m 0), .int .i64 h, .int .u64 n]⟩, ⟨64, false, none, .var [.ints .u32 64 (kT.map Int.ofNat)]⟩] (by rfl) (by rfl) (by rfl) (by (repeat' (first | exact True.intro | exact rfl | refine And.intro ?_ ?_ | (simp [AV.ren, AV.rens, AObj.ren, Ent.ren, AV.inn, AV.inns, AObj.inn, *]; done)))) (by (repeat' (first | exact True.intro | exact rfl | refine And.intro ?_ ?_ | (simp [AV.ren, AV.rens, AObj.ren, Ent.ren, AV.inn, AV.inns, AObj.inn, *]; done)))) ?_)
    refine AW.pre tokT (fun _ => true) ?_; (conv => whnf)
    exact hr _ _ _ ⟨0, rfl, by omega, rfl, rfl⟩
end Go.Aw
