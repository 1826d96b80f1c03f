/-
  AwJ: one operation of the evaluator does what the model does. Own work of this session.
-/
import Derived.Test.YtdababcblhbpeaaAwI
set_option linter.unusedVariables false
set_option linter.unusedSimpArgs false
namespace Go.Aw

section
variable {P : Program} {T : Tab} (hT : TOk P T) {w0 : Base} {w : World} {ρ : Nat → Loc} {hp : Hp} (hs : HSat w0 ρ hp w)

/-- what an operation brings -/
def NRes (P : Program) (w0 : Base) (ρ : Nat → Loc) (hp : Hp) (w : World) (s : Sem Next) (K : Kont) : Prop :=
  ∃ v cv hp' ρ' w', K v hp' ∧ (s.run P w = .ok (.value cv) w' ∨ (s.run P w = .ok .skip w' ∧ cv = undef)) ∧ VR ρ' hp'.length v cv ∧ HSat w0 ρ' hp' w' ∧ hp.length ≤ hp'.length ∧ ∀ b, b < hp.length → ρ' b = ρ b

theorem NRes.of_res {s : Sem Value} {K : Kont} (h : Res P w0 ρ hp w s K) : NRes P w0 ρ hp w (do pure (.value (← s))) K := by
  obtain ⟨v, cv, hp', ρ', w', k1, k2, k3, k4, k5, k6⟩ := h
  exact ⟨v, cv, hp', ρ', w', k1, .inl (by simp [k2]), k3, k4, k5, k6⟩

theorem NRes.of_same {s : Sem Value} {K : Kont} (hs : HSat w0 ρ hp w) (h : ∃ v cv, K v hp ∧ s.run P w = .ok cv w ∧ VR ρ hp.length v cv) : NRes P w0 ρ hp w (do pure (.value (← s))) K := by
  obtain ⟨v, cv, k1, k2, k3⟩ := h
  exact .of_res (Res.same hs k1 k2 k3)

theorem NRes.pure {K : Kont} {v : AV} {cv : Value} (hs : HSat w0 ρ hp w) (h : K v hp) (hv : VR ρ hp.length v cv) : NRes P w0 ρ hp w (pure (.value cv)) K :=
  ⟨v, cv, hp, ρ, w, h, .inl (by simp), hv, hs, Nat.le_refl _, fun _ _ => rfl⟩

include hT hs
theorem evOp_sound {fr : Fr} {a : Act} {o : Oper} {op : Op} {K : Kont} (hop : o.op = op) (hf : FSat ρ hp.length fr a.tmps) (h : evOp T fr hp op K) : NRes P w0 ρ hp w (execOp a.eval o) K := by
  unfold evOp at h
  unfold execOp
  rw [hop]
  split at h <;> dsimp only
  · obtain ⟨v, h1, h2⟩ := avK_sound hf h; exact .pure hs h1 h2
  · obtain ⟨v, h1, h2⟩ := avK_sound hf h; exact .pure hs h1 h2
  · obtain ⟨g, h1, h2⟩ := avK_sound hf h
    split at h1
    case h_2 => exact h1.elim
    rename_i g
    simp only [VR] at h2
    rw [h2]
    split at h1
    · obtain ⟨v, h3, h4⟩ := avK_sound hf h1
      simpa [asBool] using NRes.pure (P := P) hs h3 h4
    · obtain ⟨v, h3, h4⟩ := avK_sound hf h1
      simpa [asBool] using NRes.pure (P := P) hs h3 h4
  · split at h
    case h_2 => exact h.elim
    rename_i i ht
    exact .of_res (evAlloc_sound hT hs ht h)
  · split at h
    case h_2 => exact h.elim
    rename_i i ht
    obtain ⟨v, h1, h2⟩ := avK_sound hf h
    split at h1
    case h_2 => exact h1.elim
    rename_i q1 q2
    exact .of_res (evBox_sound hs h2 (Nat.eq_of_beq_eq_true q1) q2 h1)
  · obtain ⟨ps, h1, h2⟩ := avpK_sound hf h
    exact .of_same hs (evBuild_sound hT (by simpa using h2) h1)
  · obtain ⟨ps, h1, h2⟩ := avpK_sound hf h
    exact .of_res (evBuildSlice_sound hT hs (by simpa using h2) h1)
  · obtain ⟨l, h1, h2⟩ := avK_sound hf h
    obtain ⟨c, h3, h4⟩ := avK_sound hf h1
    exact .of_res (evMakeSlice_sound hT hs h2 h4 h3)
  · obtain ⟨l, h1, h2⟩ := avK_sound hf h
    exact .of_same hs (evLoad_sound hT hs h2 h1)
  · obtain ⟨l, h1, h2⟩ := avK_sound hf h
    obtain ⟨c, h3, h4⟩ := avK_sound hf h1
    obtain ⟨hp', w', q1, q2, q3, q4⟩ := evStore_sound hT hs h2 h4 h3
    exact ⟨_, undef, hp', ρ, w', q1, .inr ⟨by simp [q2], rfl⟩, by simp only [VR], q3, by omega, fun _ _ => rfl⟩
  · obtain ⟨x, h1, h2⟩ := avK_sound hf h
    split at h1
    · have h2' := h2
      simp only [VR] at h2'
      rw [h2'.2]
      refine NRes.pure hs h1 ?_
      rw [← h2'.2]; exact h2
    · have h2' := h2
      simp only [VR] at h2'
      obtain ⟨cs, h3, h4⟩ := h2'
      rw [h3]
      refine NRes.pure hs h1 ?_
      rw [← h3]; exact h2
    · exact h1.elim
  · obtain ⟨l, h1, h2⟩ := avK_sound hf h
    obtain ⟨c, h3, h4⟩ := avK_sound hf h1
    rename_i t x y _ 
    exact .of_same hs (evBin_sound (x := x) (y := y) hT h2 h4 h3)
  · obtain ⟨l, h1, h2⟩ := avK_sound hf h
    exact .of_same hs (evUn_sound h2 h1)
  · obtain ⟨l, h1, h2⟩ := avK_sound hf h
    exact .of_res (evConv_sound hT hs h2 h1)
  · rename_i f first caps
    split at h
    case h_2 => exact h.elim
    rename_i f hfirst
    obtain ⟨cs, h1, h2⟩ := avsK_sound hf h
    have hfe : first = #[] := by
      cases first with | mk l => simp at hfirst; rw [hfirst]
    subst hfe
    refine .of_same hs ⟨_, .func (.func f) #[] (caps.map a.eval), h1, by simp [Instr.makeFunc], ?_⟩
    simp only [VR]
    exact ⟨_, by rw [← Array.toList_map], h2⟩
  · split at h
    case h_2 => exact h.elim
    obtain ⟨x, h1, h2⟩ := avK_sound hf h
    obtain ⟨lo, h3, h4⟩ := avoK_sound hf h1
    obtain ⟨hi, h5, h6⟩ := avoK_sound hf h3
    exact .of_res (evSlice_sound hT hs h2 h4 h6 h5)
  · obtain ⟨l, h1, h2⟩ := avK_sound hf h
    exact .of_same hs (evFieldAddr_sound hT h2 h1)
  · obtain ⟨l, h1, h2⟩ := avK_sound hf h
    exact .of_same hs (evField_sound hT h2 h1)
  · obtain ⟨l, h1, h2⟩ := avK_sound hf h
    obtain ⟨c, h3, h4⟩ := avK_sound hf h1
    exact .of_same hs (evIndexAddr_sound hT hs h2 h4 h3)
  · obtain ⟨l, h1, h2⟩ := avK_sound hf h
    obtain ⟨c, h3, h4⟩ := avK_sound hf h1
    exact .of_same hs (evIndex_sound hT h2 h4 h3)
  · obtain ⟨l, h1, h2⟩ := avK_sound hf h
    split at h1
    case h_2 => exact h1.elim
    rename_i i vs
    split at h1
    case h_2 => exact h1.elim
    rename_i v hv
    simp only [VR] at h2
    obtain ⟨cs, h3, h4⟩ := h2
    have : ∀ (vs : List AV) (cs : List Value) (i : Nat), VRs ρ hp.length vs cs → vs[i]? = some v → ∃ c, cs[i]? = some c ∧ VR ρ hp.length v c := by
      intro vs
      induction vs with
      | nil => intro cs i _ h; simp at h
      | cons x r ih =>
        intro cs i h hi
        simp only [VRs] at h
        obtain ⟨c, cr, rfl, g1, g2⟩ := h
        cases i with
        | zero => simp at hi; subst hi; exact ⟨c, by simp, g1⟩
        | succ i => simp at hi; obtain ⟨c', g3, g4⟩ := ih cr i g2 hi; exact ⟨c', by simpa using g3, g4⟩
    obtain ⟨c, h5, h6⟩ := this vs cs _ h4 hv
    refine .of_same hs ⟨v, c, h1, ?_, h6⟩
    rw [h3]
    simp [Instr.extract, h5]
  · rename_i c
    split at h
    case h_2 => exact h.elim
    rename_i b hb
    obtain ⟨cs, h1, h2⟩ := avsK_sound hf h
    obtain ⟨v, cv, hp', ρ', w', k1, k2, k3, k4, k5, k6⟩ := evBuiltin_sound hT hs (ty := o.type) (consts := c.args.map fun | .const _ => true | _ => false) h2 h1
    refine ⟨v, cv, hp', ρ', w', k1, .inl ?_, k3, k4, k5, k6⟩
    have e1 : (c.args.map a.eval) = (c.args.toList.map a.eval).toArray := by rw [← Array.toList_map]
    rw [← k2, e1.symm]
    simp [resolve, hb, invoke]
    rfl
  · exact h.elim
end
end Go.Aw
