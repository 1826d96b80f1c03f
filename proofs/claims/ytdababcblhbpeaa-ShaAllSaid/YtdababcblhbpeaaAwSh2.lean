/-
  AwSh2: sha's words: rotations, three, the roots. Own work.
-/
import Derived.Test.YtdababcblhbpeaaAwSh1
import Derived.Test.YtdababcblhbpeaaAwO
import Derived.Test.YtdababcblhbpeaaAwW
import Derived.Test.YtdababcblhbpeaaAwTab
set_option linter.unusedVariables false
set_option linter.unusedSimpArgs false
set_option maxRecDepth 20000
open Go.Proofs
namespace Go.Aw

theorem rot_amount : ∀ k : Fin 32, andI .u64 (IntKind.u64.wrap (-((k.val : Nat) : Int))) 31 = (((32 - k.val) % 32 : Nat) : Int) := by decide

theorem rot_ok (x : W32) (k : Nat) (h1 : 1 ≤ k) (h2 : k ≤ 31) : AC Try.prog 127 [.int .u32 (wI x), .int .i64 (-(k : Int))] [] (fun r hp' => r = .int .u32 (wI (rotr x k)) ∧ hp' = []) := by
  refine AC.left (AC.body tokT Try.func127 rfl rfl rfl (by decide) (by rfl) ?_)
  have ha := rot_amount ⟨k, by omega⟩
  simp only at ha
  rw [Nat.mod_eq_of_lt (by omega)] at ha
  refine ev_sound tokT (keep := fun _ => true) ?_
  ((conv => whnf); (repeat (((refine And.intro (by first | omega | ((repeat (first | rw [IntWalk.i64_in _ (by omega)] | rw [IntWalk.u8_in _ (by omega)] | rw [IntWalk.u32_in _ (by omega)] | rw [IntWalk.u64_in _ (by omega)])); omega)) ?_); (conv => whnf)))))
  rw [ha]
  (conv => whnf)
  have e : IntKind.u64.wrap (32 - ((32 - k : Nat) : Int)) = (k : Int) := by rw [IntWalk.u64_in _ (by omega)]; omega
  rw [e]
  (conv => whnf)
  rw [w_shl _ _ (by omega), w_shr _ _ (by omega), w_or]
  rw [show x <<< (32 - k) ||| x >>> k = rotr x k from BitVec.or_comm _ _]
  (refine Left.of [] (.int .u32 (wI (rotr x k))) [] (by rfl) (by rfl) (by rfl) (by (repeat' (exact True.intro))) (by rfl) (by (repeat' (exact True.intro))) ?_)
  exact ⟨rfl, rfl⟩

def threeW (x : W32) (a b c : Nat) (s : Bool) : W32 := rotr x a ^^^ rotr x b ^^^ (if s then x >>> c else rotr x c)
theorem three_ok (x : W32) (a b c : Nat) (s : Bool) (ha : 1 ≤ a) (ha' : a ≤ 31) (hb : 1 ≤ b) (hb' : b ≤ 31) (hc : 1 ≤ c) (hc' : c ≤ 31) :
    AC Try.prog 122 [.int .u32 (wI x), .int .i64 a, .int .i64 b, .int .i64 c, .bool s] [] (fun r hp' => r = .int .u32 (wI (threeW x a b c s)) ∧ hp' = []) := by
  refine AC.left (AC.body tokT Try.func122 rfl rfl rfl (by decide) (by rfl) ?_)
  have en : ∀ k : Nat, k ≤ 31 → IntKind.i64.wrap (0 - (k : Int)) = -(k : Int) := fun k hk => by rw [IntWalk.i64_in _ (by omega)]; omega
  refine AW.pre tokT (fun _ => true) ?_; (conv => whnf)
  refine AW.pre tokT (fun _ => true) ?_; (conv => whnf)
  rw [en c hc']
  refine AC.pure (rot_ok x c hc hc') (by (repeat' (first | exact True.intro | refine And.intro ?_ ?_))) (by (repeat' (exact True.intro))) ?_
  (conv => whnf)
  refine AW.cutT (fun fr hp => fr = [(0, .int .u32 (wI x)), (1, .int .i64 a), (2, .int .i64 b), (11, .int .u32 (wI (if s then x >>> c else rotr x c)))] ∧ hp = []) ?_ ?_
  · refine ev_sound tokT (keep := fun _ => true) ?_
    cases s with
    | true =>
      ((conv => whnf); (repeat (((refine And.intro (by omega) ?_); (conv => whnf)))))
      rw [w_shr _ _ (by omega)]
      (refine Turned.of [] [(0, .int .u32 (wI x)), (1, .int .i64 a), (2, .int .i64 b), (11, .int .u32 (wI (x >>> c)))] [] (by rfl) (by rfl) (by rfl) (by (repeat' (first | exact True.intro | exact rfl | refine And.intro ?_ ?_))) (by (repeat' (first | exact True.intro | exact rfl | refine And.intro ?_ ?_))) ?_)
      exact ⟨rfl, rfl⟩
    | false =>
      (conv => whnf)
      (refine Turned.of [] [(0, .int .u32 (wI x)), (1, .int .i64 a), (2, .int .i64 b), (11, .int .u32 (wI (rotr x c)))] [] (by rfl) (by rfl) (by rfl) (by (repeat' (first | exact True.intro | exact rfl | refine And.intro ?_ ?_))) (by (repeat' (first | exact True.intro | exact rfl | refine And.intro ?_ ?_))) ?_)
      exact ⟨rfl, rfl⟩
  · rintro fr hp ⟨rfl, rfl⟩
    refine ev_sound tokT (keep := fun _ => true) ?_
    (conv => whnf)
    rw [en a ha']
    refine AC.pure (rot_ok x a ha ha') (by (repeat' (first | exact True.intro | refine And.intro ?_ ?_))) (by (repeat' (exact True.intro))) ?_
    (conv => whnf)
    rw [en b hb']
    refine AC.pure (rot_ok x b hb hb') (by (repeat' (first | exact True.intro | refine And.intro ?_ ?_))) (by (repeat' (exact True.intro))) ?_
    (conv => whnf)
    rw [w_xor, w_xor]
    (refine Left.of [] (.int .u32 (wI (threeW x a b c s))) [] (by rfl) (by rfl) (by rfl) (by (repeat' (exact True.intro))) (by rfl) (by (repeat' (exact True.intro))) ?_)
    exact ⟨rfl, rfl⟩

theorem roots_ok : AC Try.prog 121 [] [] (fun r hp' => r = .agg [.ints .u32 64 (kT.map Int.ofNat)] ∧ hp' = []) := by
  refine AC.left (AC.body tokT Try.func121 rfl rfl rfl (by decide) (by rfl) ?_)
  refine ev_sound tokT (keep := fun _ => true) ?_
  (conv => whnf)
  (refine Left.of [] (.agg [.ints .u32 64 (kT.map Int.ofNat)]) [] (by rfl) (by rfl) (by rfl) (by (repeat' (first | exact True.intro | refine And.intro ?_ ?_))) (by rfl) (by (repeat' (first | exact True.intro | refine And.intro ?_ ?_))) ?_)
  exact ⟨rfl, rfl⟩
end Go.Aw
