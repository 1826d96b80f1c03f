/-
  AwNumR: Round. Own work.
-/
import Derived.Test.YtdababcblhbpeaaAwTab
import Derived.Test.YtdababcblhbpeaaAwO
import Derived.Test.YtdababcblhbpeaaAwW
set_option linter.unusedVariables false
set_option linter.unusedSimpArgs false
set_option maxRecDepth 20000
open Go.Proofs
namespace Go.Aw
theorem round_ok (k n : Int) (h0 : 0 < n) (h1 : n ≤ 4611686018427387904) : AC Try.prog 28 [.int .i64 k, .int .i64 n] [] (fun r hp' => r = .int .i64 (k % n) ∧ hp' = []) := by
  refine AC.left (AC.body tokT Try.func28 rfl rfl rfl (by decide) (by rfl) ?_)
  refine ev_sound tokT (keep := fun _ => true) ?_
  ((conv => whnf); (repeat (first | ((with_reducible (refine And.intro (show Go.Aw.againsK _ _ _ _ _ from ?_) ?_)); (focus (repeat' (first | ((with_reducible (show Go.Aw.againsK _ _ _ _ _)); (conv => whnf)) | ((with_reducible (show Go.Aw.againK _ _ _ _ _)); (conv => whnf)) | (with_reducible (exact True.intro)) | (with_reducible (refine And.intro ?_ ?_)) | exact rfl | (first | assumption | rfl | omega | (simp; done) | (simp; omega) | (simp [*]; done) | (simp [*]; omega) | (simp [roomMost]; omega) | (simp [roomMost, *]; done) | (simp [roomMost, *]; omega) | ((repeat (first | rw [IntWalk.i64_in _ (by omega)] | rw [IntWalk.u8_in _ (by omega)] | rw [IntWalk.u32_in _ (by omega)] | rw [IntWalk.u64_in _ (by omega)])); omega) | decide)))); (conv => whnf)) | ((refine And.intro (by first | exact rfl | (first | assumption | rfl | omega | (simp; done) | (simp; omega) | (simp [*]; done) | (simp [*]; omega) | (simp [roomMost]; omega) | (simp [roomMost, *]; done) | (simp [roomMost, *]; omega) | ((repeat (first | rw [IntWalk.i64_in _ (by omega)] | rw [IntWalk.u8_in _ (by omega)] | rw [IntWalk.u32_in _ (by omega)] | rw [IntWalk.u64_in _ (by omega)])); omega) | decide)) ?_); (conv => whnf)) | ((intro (hlt : _ < _)); (conv => whnf)) | ((refine Exists.intro _ (And.intro (by ((conv => whnf); (repeat ((refine And.intro (by first | exact rfl | (first | assumption | rfl | omega | (simp; done) | (simp; omega) | (simp [*]; done) | (simp [*]; omega) | (simp [roomMost]; omega) | (simp [roomMost, *]; done) | (simp [roomMost, *]; omega) | ((repeat (first | rw [IntWalk.i64_in _ (by omega)] | rw [IntWalk.u8_in _ (by omega)] | rw [IntWalk.u32_in _ (by omega)] | rw [IntWalk.u64_in _ (by omega)])); omega) | decide)) ?_); (conv => whnf))))) ?_)); (conv => whnf)) | ((refine And.intro (by (repeat' (first | exact True.intro | exact rfl | refine And.intro ?_ ?_ | (first | assumption | rfl | omega | (simp; done) | (simp; omega) | (simp [*]; done) | (simp [*]; omega) | (simp [roomMost]; omega) | (simp [roomMost, *]; done) | (simp [roomMost, *]; omega) | ((repeat (first | rw [IntWalk.i64_in _ (by omega)] | rw [IntWalk.u8_in _ (by omega)] | rw [IntWalk.u32_in _ (by omega)] | rw [IntWalk.u64_in _ (by omega)])); omega) | decide)))) ?_); (conv => whnf)))))
  have hm0 := Int.emod_nonneg k (show n ≠ 0 by omega)
  have hm1 := Int.emod_lt_of_pos k h0
  have ht : k.tmod n = k % n ∨ k.tmod n = k % n - n := by
    rw [Int.tmod_eq_emod]
    split
    · left; omega
    · right
      have : (n.natAbs : Int) = n := by omega
      rw [this]
  rw [IntWalk.i64_in _ (by omega)]
  have e : (k.tmod n + n).tmod n = k % n := by
    rw [Int.tmod_eq_emod_of_nonneg (by omega), Int.add_emod_right]
    rcases ht with h | h <;> rw [h]
    · exact Int.emod_emod_of_dvd _ (Int.dvd_refl n)
    · rw [Int.sub_emod_right]; exact Int.emod_emod_of_dvd _ (Int.dvd_refl n)
  rw [e]
  (refine Left.of [] (.int .i64 (k % n)) [] (by rfl) (by rfl) (by rfl) (by (repeat' (first | exact True.intro | exact rfl | refine And.intro ?_ ?_ | omega | exact RowFix.ren (by assumption) rfl | exact RowFix.renO (by assumption) rfl | exact RowFix.inn (by assumption) rfl | (simp [AV.ren, AV.rens, AObj.ren, Ent.ren, AV.inn, AV.inns, AObj.inn, *]; done)))) (by rfl) (by (repeat' (first | exact True.intro | exact rfl | refine And.intro ?_ ?_ | omega | exact RowFix.ren (by assumption) rfl | exact RowFix.renO (by assumption) rfl | exact RowFix.inn (by assumption) rfl | (simp [AV.ren, AV.rens, AObj.ren, Ent.ren, AV.inn, AV.inns, AObj.inn, *]; done)))) ?_)
  exact ⟨rfl, rfl⟩

end Go.Aw
