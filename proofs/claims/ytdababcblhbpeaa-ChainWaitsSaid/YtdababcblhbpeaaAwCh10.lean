/-
  AwCh10: slices.Backward. Own work.
-/
import Derived.Test.YtdababcblhbpeaaAwCh9
import Derived.Test.YtdababcblhbpeaaM11
set_option linter.unusedVariables false
set_option linter.unusedSimpArgs false
set_option maxRecDepth 20000
open Go.Proofs
namespace Go.Aw

theorem backward_ok (els : List (List AV)) (n : Nat) (ro : Bool) (hfix : ∀ x ∈ els, AV.inns 0 x) :
    AC Try.prog 119 [.sl 0 0 n none] [⟨32, ro, none, .row els⟩] (fun r hp' => r = .fn 125 [.ptr 1 0 0 0] ∧ hp' = [⟨32, ro, none, .row els⟩, ⟨1, false, none, .var [.sl 0 0 n none]⟩]) := by
  refine AC.left (AC.body tokT Try.func119 rfl rfl rfl (by decide) (by rfl) ?_)
  have hF : RowFix 0 els := by unfold RowFix; exact hfix
  refine AW.pre tokT (fun _ => true) ?_; (conv => whnf)
  refine ev_sound tokT (keep := fun _ => true) ?_
  (conv => whnf)
  (refine Left.of [0, 1] (.fn 125 [.ptr 1 0 0 0]) [⟨32, ro, none, .row els⟩, ⟨1, false, none, .var [.sl 0 0 n none]⟩] (by rfl) (by rfl) (by rfl) (by (repeat' (first | exact True.intro | exact rfl | refine And.intro ?_ ?_ | exact RowFix.ren (by assumption) rfl | exact RowFix.inn (by assumption) rfl | (simp [AV.ren, AV.rens, AObj.ren, Ent.ren, AV.inn, AV.inns, AObj.inn, *]; done)))) (by rfl) (by (repeat' (first | exact True.intro | exact rfl | refine And.intro ?_ ?_ | exact RowFix.ren (by assumption) rfl | exact RowFix.inn (by assumption) rfl | (simp [AV.ren, AV.rens, AObj.ren, Ent.ren, AV.inn, AV.inns, AObj.inn, *]; done)))) ?_)
  exact ⟨rfl, rfl⟩
theorem back_walks (up : List (List Int)) (hup : ∀ x ∈ up, x.length = 32) (hn : up.length ≤ 1000000) (ρ0 : Nat → Loc) (J : Nat → Hp → Prop)
    (hJ : ∀ j hp, J j hp → ∃ e0 e1 e2 e3 e4 e5 e6 ro7 ro8 rest, hp = e0 :: e1 :: e2 :: e3 :: e4 :: e5 :: e6 :: (⟨32, ro7, none, .row (rowH up)⟩ : Ent) :: (⟨1, ro8, none, .var [.sl 7 0 up.length none]⟩ : Ent) :: rest) :
    Walks Try.prog 125 [.ptr 8 0 0 0] 9 ρ0 J (fun j => [.int .i64 ((up.length : Int) - 1 - j), .agg [.ints .u8 32 (up.getD (up.length - 1 - j) [])]]) up.length := by
  intro w1 l hp ρ W cs hds h0 hρ hs hM hvs hY
  refine callsIn_of_wp (fn := Try.f125) (P := Try.prog) Try.func125 rfl trivial (wpIn_wide.2 ?_) rfl
  refine (AX_iff (P := Try.prog) (w0 := w1) (ρ0 := ρ0) (N := 19) (M := 9) (fr := [(0, .con (.func (.yield l) #[] #[])), (1, .ptr 8 0 0 0)]) (hp := hp)).1 ?_ _ W ⟨ρ, hρ, hs, ?_, ?_, hds.symm, hM⟩
  · obtain ⟨e0, e1, e2, e3, e4, e5, e6, ro7, ro8, rest, rfl⟩ := hJ 0 hp h0
    refine AX.pre (R := fun _ _ => False) (fun _ _ _ _ g _ => g.elim) ?_
    refine ev_sound tokT (keep := fun x => Nat.ble x 3) ?_
    (conv => whnf)
    rw [IntWalk.i64_in ((up.length : Int) - 1) (by omega)]
    refine AX.block (AX.loop (fun m fr hp => ∃ i, i ≤ up.length ∧ m = up.length - i ∧ J i hp ∧ fr = [(0, .con (.func (.yield l) #[] #[])), (1, .ptr 8 0 0 0), (3, .int .i64 ((up.length : Int) - 1 - i))]) up.length ?_ ?_)
    · exact ⟨0, by omega, by omega, h0, by simp⟩
    · rintro m fr hp ⟨i, hi, rfl, hJi, rfl⟩
      obtain ⟨f0, f1, f2, f3, f4, f5, f6, so7, so8, srest, rfl⟩ := hJ i hp hJi
      refine AX.seq (fun fr' hp' => i < up.length ∧ fr' = [(0, .con (.func (.yield l) #[] #[])), (1, .ptr 8 0 0 0), (3, .int .i64 ((up.length : Int) - 1 - i))] ∧ hp' = f0 :: f1 :: f2 :: f3 :: f4 :: f5 :: f6 :: (⟨32, so7, none, .row (rowH up)⟩ : Ent) :: (⟨1, so8, none, .var [.sl 7 0 up.length none]⟩ : Ent) :: srest) ?_ ?_
      · refine AX.pre (R := fun _ _ => False) (fun _ _ _ _ g _ => g.elim) ?_
        refine ev_sound tokT (keep := fun _ => true) ?_
        (conv => whnf)
        refine AX.cond ?_
        (conv => whnf)
        by_cases hlt : i < up.length
        · rw [decide_eq_true (show (up.length : Int) - 1 - i ≥ 0 by omega)]
          exact AX.skip fun a w hk => ⟨_, _, ⟨hlt, rfl, rfl⟩, KS.cut [(7, _), (8, _)] hk⟩
        · rw [decide_eq_false (show ¬ ((up.length : Int) - 1 - i ≥ 0) by omega)]
          have he : i = up.length := by omega
          subst he
          refine AX.exit fun a w hk => ?_
          obtain ⟨ρ, g1, g2, g3, g4, g5, g6⟩ := hk
          obtain ⟨_, cv, _, _, hr⟩ := resK_sound tokT g2 g3 (fn := Try.f125) (K := fun _ _ => True) (by (conv => whnf); trivial)
          exact ⟨g5.trans hds, cv, hr, ⟨_, rfl⟩, _, ρ, hJi, g1, g2, g6⟩
      · rintro fr' hp' ⟨hlt, rfl, rfl⟩
        refine AX.seq (fun fr' hp' => J (i + 1) hp' ∧ fr' = [(0, .con (.func (.yield l) #[] #[])), (1, .ptr 8 0 0 0), (3, .int .i64 ((up.length : Int) - 1 - i))]) ?_ ?_
        · refine AX.block ?_
          refine AX.seq (fun fr' hp' => J (i + 1) hp' ∧ fr' = [(0, .con (.func (.yield l) #[] #[])), (1, .ptr 8 0 0 0), (3, .int .i64 ((up.length : Int) - 1 - i)), (18, .bool false)]) ?_ ?_
          · refine AX.yield (l := l) (y0 := .int .i64 ((up.length : Int) - 1 - i)) (y1 := .agg [.ints .u8 32 (up.getD (up.length - 1 - i) [])]) tokT 6 (J (i + 1)) [(0, .con (.func (.yield l) #[] #[])), (1, .ptr 8 0 0 0), (3, .int .i64 ((up.length : Int) - 1 - i))] rfl (by kernel_rfl) rfl rfl rfl (by decide) ?_ ?_ ?_ ?_
            · simp [AV.inn, AV.inns]
            · have e2 : (rowH up)[0 + ((up.length : Int) - 1 - i).toNat]? = some [.ints .u8 32 (up.getD (up.length - 1 - i) [])] := by
                have e1 : ((up.length : Int) - 1 - i).toNat = up.length - 1 - i := by omega
                have := List.getElem?_eq_getElem (l := up) (i := up.length - 1 - i) (by omega)
                rw [Nat.zero_add, e1]
                simp [rowH, this]
              ((conv => whnf); (repeat (((refine And.intro (by omega) ?_); (conv => whnf)))))
              rw [e2]
              (conv => whnf)
              exact ⟨rfl, rfl, rfl, rfl, fun t v ht => find_app ht, fun v hv => by cases hv⟩
            · intro ρ W vs g1 g2 g3 g4
              have := hY i _ ρ W vs hlt hJi g1 g2 g3 g4
              exact this
            · rintro hp' hJ'
              (conv => whnf)
              intro a w hk
              refine ⟨_, hp', ⟨hJ', rfl⟩, hk.sub fun t v ht => ?_⟩
              simp only [Fr.find] at ht ⊢
              cases h17 : Nat.beq 17 t with
              | true =>
                have := Nat.eq_of_beq_eq_true h17
                subst this
                simp at ht
              | false => exact ht
          · rintro fr' hp' ⟨hJ', rfl⟩
            refine AX.cond ?_
            (conv => whnf)
            exact AX.skip fun a w hk => ⟨_, _, ⟨hJ', rfl⟩, KS.cut [(18, _)] hk⟩
        · rintro fr' hp' ⟨hJ', rfl⟩
          refine AX.last (Kn := fun fr hp => hp = hp' ∧ Fr.find fr 0 = some (.con (.func (.yield l) #[] #[])) ∧ Fr.find fr 1 = some (.ptr 8 0 0 0) ∧ Fr.find fr 3 = some (.int .i64 ((up.length : Int) - 1 - (i + 1 : Nat)))) (R := fun _ _ => False) ?_ (fun _ _ _ _ g _ => g.elim) ?_
          · rintro fr hp a w ⟨rfl, q0, q1, q3⟩ hk
            refine ⟨up.length - (i + 1), by omega, _, _, ⟨i + 1, by omega, rfl, hJ', rfl⟩, hk.sub fun t v ht => ?_⟩
            simp only [Fr.find] at ht
            split at ht
            · rename_i hb
              have := Nat.eq_of_beq_eq_true hb
              subst this; rw [q0]; exact ht
            · split at ht
              · rename_i hb
                have := Nat.eq_of_beq_eq_true hb
                subst this; rw [q1]; exact ht
              · split at ht
                · rename_i hb
                  have := Nat.eq_of_beq_eq_true hb
                  subst this; rw [q3]; exact ht
                · cases ht
          · refine ev_sound tokT (keep := fun _ => true) ?_
            (conv => whnf)
            rw [IntWalk.i64_in ((up.length : Int) - 1 - i - 1) (by omega)]
            exact ⟨rfl, rfl, rfl, congrArg (fun x => some (AV.int .i64 x)) (by omega)⟩
  · have hv2 : VRs ρ hp.length [.con (.func (.yield l) #[] #[]), .ptr 8 0 0 0] (.func (.yield l) #[] #[] :: cs) := by
      simp only [VRs] at hvs ⊢
      exact ⟨_, _, rfl, by simp only [VR]; exact ⟨trivial, rfl⟩, hvs⟩
    have := FSat_args (k := Try.f125.ntmps - (#[Value.func (.yield l) #[] #[]] ++ cs.toArray).size) hv2
    rw [show (#[Value.func (.yield l) #[] #[]] ++ cs.toArray) = (Value.func (.yield l) #[] #[] :: cs).toArray by simp] at this ⊢
    exact this
  · have hl := VRs_length hvs
    simp only [List.length_cons, List.length_nil] at hl
    simp [← hl, Try.f125]
end Go.Aw
