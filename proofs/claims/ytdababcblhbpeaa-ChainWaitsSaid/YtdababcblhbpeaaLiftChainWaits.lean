/-
  'ChainWaits': the walk, and what the row asks of it.
-/
import Derived.Test.YtdababcblhbpeaaRows
import Derived.WalkKit
import Derived.ProofKit
import Derived.OpenShut
import Derived.Below
import Derived.Test.YtdababcblhbpeaaAwCh37
import Derived.Test.YtdababcblhbpeaaM8
import Derived.Test.YtdababcblhbpeaaAwSi
namespace Go.Proofs.Ytdababcblhbpeaa.chainWaits
open Go.ChangeShapes Go.WideShapes Go.ChangeAt Go.RowKit
set_option linter.unusedVariables false

theorem own : ownKnob Try.prog.godebug = none := by kernel_rfl
theorem laidOut : laidOutB Try.prog = true := by kernel_rfl

set_option maxRecDepth 20000 in
theorem walk (W : World) {r : Reach} {b0 : Nat} (v0 v1 v2 : Value) (os : List Int) (hv : Value.okWide Try.prog W r b0 3 v0) (hm : Value.okWide Try.prog W r b0 3 v1) (h1 : Go.Aw.RowOf W .i64 v2 os) :
    Calls Try.prog 18 #[v0, v1, v2] W fun e w' => e = .returned (.bool true) ∧ Below W.heap.size W w' := by
  obtain ⟨k, _, kv⟩ := Go.Aw.int_arg hv
  obtain ⟨k1, _, kv1⟩ := Go.Aw.int_arg hm
  obtain ⟨len1, l1, b1, b2, b3, b4⟩ := Go.Aw.row_arg h1
  refine Go.Aw.law_given (vs := [v0, v1, v2]) (ρ := fun b => l1) (Go.Aw.waits_law k k1 os len1 b1) ?_ ?_
  · intro b e hb
    match b, hb with
    | 0, hb => simp at hb; subst hb; exact ⟨rfl, rfl, b2, b3 _ _⟩
    | b + 1, hb => simp at hb
  · simp only [Go.Aw.VRs]
    exact ⟨v0, _, rfl, kv _ _, ⟨v1, _, rfl, kv1 _ _, ⟨v2, _, rfl, b4 _ _ _ (by simp) rfl, rfl⟩⟩⟩

set_option maxRecDepth 100000 in
theorem lifted (os : Os) (started : os.Started) (H : Type) (enc : TypeId × Value → H) :
    ReturnsInHanded {} Try.checked os 18 .any (Rows.chainWaitsSpec.pre6 enc Try.prog Try.f18 Rows.chainWaitsRow.domain false) (Rows.chainWaitsSpec.post enc Try.prog Try.f18 false true false false) := by
  refine returnsInHanded_of_change (C := Try.checked) own started (by kernel_rfl) Try.func18
    (ChangeSpec.witness6 (enc := enc) (C := Try.checked) false ⟨#[], #[.int .i64 0, .int .i64 0, .slice none 0 0], []⟩ 8 (by kernel_rfl) (by kernel_rfl) (by kernel_rfl) (by kernel_rfl)) ?_
  intro W base args ds gs before hval0 hW hcnd _
  have hval : ∀ (j : Nat) t v, Try.f18.params[j]? = some t → args[j]? = some v → Value.okWide Try.prog W .any base t v := hval0
  have hW' := hW
  obtain ⟨p, q, hA0, hV, rfl, hfz, hnd⟩ := hW
  have hA : DataW.TrodAll enc Try.prog W 0 (fun _ => true) true Try.f18.params.toList args.toList ds p := hA0
  rw [Try.params18] at hA hval
  obtain ⟨v0, vs0, d0, ds0, p0, q0, hargs, rfl, rfl, h0, r0⟩ := trodAll_cons hA
  obtain ⟨v1, vs1, d1, ds1, p1, q1, rfl, rfl, rfl, h1, r1⟩ := trodAll_cons r0
  obtain ⟨v2, vs2, d2, ds2, p2, q2, rfl, rfl, rfl, h2, r2⟩ := trodAll_cons r1
  obtain ⟨rfl, rfl, rfl⟩ := trodAll_nil r2
  obtain rfl : args = #[v0, v1, v2] := by cases args; simp_all
  obtain ⟨rfl, rfl⟩ := trodVars_none hV
  have k0 := h0
  have lt0 : ∀ x ∈ p0, x.block < W.heap.size := by obtain ⟨m, hm⟩ := k0; exact DataW.trod_lt m _ _ _ hm
  have k1 := h1
  have lt1 : ∀ x ∈ p1, x.block < W.heap.size := by obtain ⟨m, hm⟩ := k1; exact DataW.trod_lt m _ _ _ hm
  have k2 := h2
  have lt2 : ∀ x ∈ p2, x.block < W.heap.size := by obtain ⟨m, hm⟩ := k2; exact DataW.trod_lt m _ _ _ hm
  have hv1 := hval 1 3 v1 rfl rfl
  obtain ⟨z1, row1, wf1, _⟩ := Go.Aw.open_ints_all Try.underlying33 Try.underlying3 (by kernel_rfl) (hval 2 33 v2 rfl rfl) h2
  have hv0 := hval 0 3 v0 rfl rfl
  clear hA0 hval0
  refine (walk W v0 v1 v2 z1 hv0 hv1 row1).mono fun e W' ⟨he, bel⟩ => ?_
  subst he
  exact ⟨_, rfl, _, _, _, [], _, [], hW', trodAll_mk1 (shut_bool Try.underlying4 _), (trodAll_cons_mk (Below.trod laidOut (by kernel_rfl) (of_decide_eq_true (by kernel_rfl)) k0 bel lt0) (trodAll_cons_mk (Below.trod laidOut (by kernel_rfl) (of_decide_eq_true (by kernel_rfl)) k1 bel lt1) (trodAll_cons_mk (Below.trod laidOut (by kernel_rfl) (of_decide_eq_true (by kernel_rfl)) k2 bel lt2) trodAll_mk0))), rfl, bel.frame _, fun h => by cases h⟩
end Go.Proofs.Ytdababcblhbpeaa.chainWaits
