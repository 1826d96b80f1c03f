/-
  'ShaSums' says true, whatever it is given: the statement 'Rows.ShaSumsSaid'. Conditions: none.
-/
import Derived.Test.YtdababcblhbpeaaRows
import Derived.WalkKit
import Derived.ProofKit
import Derived.OpenShut
import Derived.Below
import Derived.Test.YtdababcblhbpeaaAwSh7
import Derived.Test.YtdababcblhbpeaaAwZ
namespace Go.Proofs.Ytdababcblhbpeaa.shaSums
open Go.ChangeShapes Go.WideShapes Go.ChangeAt Go.RowKit
set_option linter.unusedVariables false

theorem own : ownKnob Try.prog.godebug = none := by kernel_rfl
theorem laidOut : laidOutB Try.prog = true := by kernel_rfl

theorem walk (W : World) (v v1 : Value) (zs cs : List Int) (h : Go.Aw.RowOf W .u8 v zs) (h' : Go.Aw.RowOf W .i64 v1 cs) :
    Calls Try.prog 8 #[v, v1] W fun e w' => e = .returned (.bool true) ∧ Below W.heap.size W w' := by
  obtain ⟨len, l, h1, h2, h3, h4⟩ := Go.Aw.row_arg h
  obtain ⟨len', l', h1', h2', h3', h4'⟩ := Go.Aw.row_arg h'
  refine Go.Aw.law_given (vs := [v, v1]) (ρ := fun b => if b = 0 then l else l') (Go.Aw.sums_law zs cs len len' h1 h1') ?_ ?_
  · intro b e hb
    match b, hb with
    | 0, hb => simp at hb; subst hb; exact ⟨rfl, rfl, h2, h3 _ _⟩
    | 1, hb => simp at hb; subst hb; exact ⟨rfl, rfl, h2', h3' _ _⟩
    | b + 2, hb => simp at hb
  · simp only [Go.Aw.VRs]
    exact ⟨v, _, rfl, h4 _ _ _ (by simp) rfl, v1, _, rfl, h4' _ _ _ (by simp) rfl, rfl⟩

set_option maxRecDepth 100000 in
theorem lifted (os : Os) (started : os.Started) (H : Type) (enc : TypeId × Value → H) :
    ReturnsInHanded {} Try.checked os 8 .any (Rows.shaSumsSpec.pre6 enc Try.prog Try.f8 Rows.shaSumsRow.domain false) (Rows.shaSumsSpec.post enc Try.prog Try.f8 false true false false) := by
  refine returnsInHanded_of_change (C := Try.checked) own started (by kernel_rfl) Try.func8
    (ChangeSpec.witness6 (enc := enc) (C := Try.checked) false ⟨#[], #[.slice none 0 0, .slice none 0 0], []⟩ 8 (by kernel_rfl) (by kernel_rfl) (by kernel_rfl) (by kernel_rfl)) ?_
  intro W base args ds gs before hval0 hW hcnd _
  have hval : ∀ (j : Nat) t v, Try.f8.params[j]? = some t → args[j]? = some v → Value.okWide Try.prog W .any base t v := hval0
  have hW' := hW
  obtain ⟨p, q, hA0, hV, rfl, hfz, hnd⟩ := hW
  have hA : DataW.TrodAll enc Try.prog W 0 (fun _ => true) true Try.f8.params.toList args.toList ds p := hA0
  rw [Try.params8] at hA hval
  obtain ⟨v0, vs0, d0, ds0, p0, q0, hargs, rfl, rfl, h0, r0⟩ := trodAll_cons hA
  obtain ⟨v1, vs1, d1, ds1, p1, q1, rfl, rfl, rfl, h1, r1⟩ := trodAll_cons r0
  obtain ⟨rfl, rfl, rfl⟩ := trodAll_nil r1
  obtain rfl : args = #[v0, v1] := by cases args; simp_all
  obtain ⟨rfl, rfl⟩ := trodVars_none hV
  have k0 := h0
  have lt0 : ∀ x ∈ p0, x.block < W.heap.size := by obtain ⟨m, hm⟩ := k0; exact DataW.trod_lt m _ _ _ hm
  obtain ⟨z0, row0, wf0, _⟩ := Go.Aw.open_ints_all Try.underlying22 Try.underlying5 (by kernel_rfl) (hval 0 22 v0 rfl rfl) h0
  have k1 := h1
  have lt1 : ∀ x ∈ p1, x.block < W.heap.size := by obtain ⟨m, hm⟩ := k1; exact DataW.trod_lt m _ _ _ hm
  obtain ⟨z1, row1, wf1, _⟩ := Go.Aw.open_ints_all Try.underlying33 Try.underlying3 (by kernel_rfl) (hval 1 33 v1 rfl rfl) h1
  clear hA0 hval0
  refine (walk W v0 v1 z0 z1 row0 row1).mono fun e W' ⟨he, bel⟩ => ?_
  subst he
  exact ⟨_, rfl, _, _, _, [], _, [], hW', trodAll_mk1 (shut_bool Try.underlying4 _), (trodAll_cons_mk (Below.trod laidOut (by kernel_rfl) (of_decide_eq_true (by kernel_rfl)) k0 bel lt0) (trodAll_cons_mk (Below.trod laidOut (by kernel_rfl) (of_decide_eq_true (by kernel_rfl)) k1 bel lt1) trodAll_mk0)), rfl, bel.frame _, fun h => by cases h⟩

theorem over : Rows.shaSumsRow.holds Try.pinned (OpenSpec.ofChange Rows.shaSumsSpec) :=
  OpenClaim.holds_of_wide 8 Try.f8 rfl rfl rfl rfl rfl rfl rfl ⟨rfl, rfl, rfl, rfl, rfl⟩ rfl rfl rfl rfl rfl (by kernel_rfl) Try.func8 (by kernel_rfl)
    (of_decide_eq_true (by kernel_rfl)) (by unfold Func.isWrapper; first | (rw [if_pos (by decide +kernel)]; kernel_rfl) | (rw [if_neg (by decide +kernel)]; exact ⟨rfl, rfl⟩))
    (fun os started H enc _ => lifted os started H enc)

/-- the statement -/
theorem proved : Rows.ShaSumsSaid := over
#print axioms proved
end Go.Proofs.Ytdababcblhbpeaa.shaSums
