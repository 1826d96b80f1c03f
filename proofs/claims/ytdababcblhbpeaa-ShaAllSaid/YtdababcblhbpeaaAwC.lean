/-
  AwC: what the pieces of the evaluator say of a memory: slots, blocks, lists of cells. Own work of this session.
-/
import Derived.Test.YtdababcblhbpeaaAwB
set_option linter.unusedVariables false
set_option linter.unusedSimpArgs false
namespace Go.Aw

/-! ### values keep their meaning while blocks are added -/
section mono
variable {ρ ρ' : Nat → Loc} {n n' : Nat}
mutual
theorem VR_mono (hn : n ≤ n') (h : ∀ b, b < n → ρ' b = ρ b) : ∀ (v : AV) (c : Value), VR ρ n v c → VR ρ' n' v c
  | .int _ _, c, hv => by simpa only [VR] using hv
  | .bool _, c, hv => by simpa only [VR] using hv
  | .str _, c, hv => by simpa only [VR] using hv
  | .con _, c, hv => by simpa only [VR] using hv
  | .ptr b i off j, c, hv => by
    simp only [VR] at hv ⊢
    rw [h b hv.1]; exact ⟨by omega, hv.2⟩
  | .sl b off len cap, c, hv => by
    simp only [VR] at hv ⊢
    rw [h b hv.1]; exact ⟨by omega, hv.2⟩
  | .mp b, c, hv => by
    simp only [VR] at hv ⊢
    rw [h b hv.1]; exact ⟨by omega, hv.2⟩
  | .ints _ _ _, c, hv => by simp only [VR] at hv
  | .agg vs, c, hv => by
    simp only [VR] at hv ⊢
    obtain ⟨cs, h1, h2, h3⟩ := hv
    exact ⟨cs, h1, CAt_mono hn h vs _ _ h2, h3⟩
  | .tup vs, c, hv => by
    simp only [VR] at hv ⊢
    obtain ⟨cs, h1, h2⟩ := hv
    exact ⟨cs, h1, VRs_mono hn h vs cs h2⟩
  | .fn f vs, c, hv => by
    simp only [VR] at hv ⊢
    obtain ⟨cs, h1, h2⟩ := hv
    exact ⟨cs, h1, VRs_mono hn h vs cs h2⟩
  | .top, c, hv => by simp only [VR]
theorem VRs_mono (hn : n ≤ n') (h : ∀ b, b < n → ρ' b = ρ b) : ∀ (vs : List AV) (cs : List Value), VRs ρ n vs cs → VRs ρ' n' vs cs
  | [], cs, hv => by simpa only [VRs] using hv
  | v :: vs, cs, hv => by
    simp only [VRs] at hv ⊢
    obtain ⟨c, cr, h1, h2, h3⟩ := hv
    exact ⟨c, cr, h1, VR_mono hn h v c h2, VRs_mono hn h vs cr h3⟩
theorem CAt_mono (hn : n ≤ n') (h : ∀ b, b < n → ρ' b = ρ b) : ∀ (vs : List AV) (f : Nat → Option Value) (off : Nat), CAt ρ n f vs off → CAt ρ' n' f vs off
  | [], f, off, hv => by simp only [CAt]
  | .ints k m xs :: vs, f, off, hv => by
    simp only [CAt] at hv ⊢
    exact ⟨hv.1, CAt_mono hn h vs f _ hv.2⟩
  | .int _ _ :: vs, f, off, hv => by
    simp only [CAt] at hv ⊢
    obtain ⟨⟨c, h1, h2, h3⟩, h4⟩ := hv
    exact ⟨⟨c, h1, h2, VR_mono hn h _ c h3⟩, CAt_mono hn h vs f _ h4⟩
  | .bool _ :: vs, f, off, hv => by
    simp only [CAt] at hv ⊢
    obtain ⟨⟨c, h1, h2, h3⟩, h4⟩ := hv
    exact ⟨⟨c, h1, h2, VR_mono hn h _ c h3⟩, CAt_mono hn h vs f _ h4⟩
  | .str _ :: vs, f, off, hv => by
    simp only [CAt] at hv ⊢
    obtain ⟨⟨c, h1, h2, h3⟩, h4⟩ := hv
    exact ⟨⟨c, h1, h2, VR_mono hn h _ c h3⟩, CAt_mono hn h vs f _ h4⟩
  | .con _ :: vs, f, off, hv => by
    simp only [CAt] at hv ⊢
    obtain ⟨⟨c, h1, h2, h3⟩, h4⟩ := hv
    exact ⟨⟨c, h1, h2, VR_mono hn h _ c h3⟩, CAt_mono hn h vs f _ h4⟩
  | .ptr _ _ _ _ :: vs, f, off, hv => by
    simp only [CAt] at hv ⊢
    obtain ⟨⟨c, h1, h2, h3⟩, h4⟩ := hv
    exact ⟨⟨c, h1, h2, VR_mono hn h _ c h3⟩, CAt_mono hn h vs f _ h4⟩
  | .sl _ _ _ _ :: vs, f, off, hv => by
    simp only [CAt] at hv ⊢
    obtain ⟨⟨c, h1, h2, h3⟩, h4⟩ := hv
    exact ⟨⟨c, h1, h2, VR_mono hn h _ c h3⟩, CAt_mono hn h vs f _ h4⟩
  | .mp _ :: vs, f, off, hv => by
    simp only [CAt] at hv ⊢
    obtain ⟨⟨c, h1, h2, h3⟩, h4⟩ := hv
    exact ⟨⟨c, h1, h2, VR_mono hn h _ c h3⟩, CAt_mono hn h vs f _ h4⟩
  | .agg _ :: vs, f, off, hv => by
    simp only [CAt] at hv ⊢
    obtain ⟨⟨c, h1, h2, h3⟩, h4⟩ := hv
    exact ⟨⟨c, h1, h2, VR_mono hn h _ c h3⟩, CAt_mono hn h vs f _ h4⟩
  | .tup _ :: vs, f, off, hv => by
    simp only [CAt] at hv ⊢
    obtain ⟨⟨c, h1, h2, h3⟩, h4⟩ := hv
    exact ⟨⟨c, h1, h2, VR_mono hn h _ c h3⟩, CAt_mono hn h vs f _ h4⟩
  | .fn _ _ :: vs, f, off, hv => by
    simp only [CAt] at hv ⊢
    obtain ⟨⟨c, h1, h2, h3⟩, h4⟩ := hv
    exact ⟨⟨c, h1, h2, VR_mono hn h _ c h3⟩, CAt_mono hn h vs f _ h4⟩
  | .top :: vs, f, off, hv => by
    simp only [CAt] at hv ⊢
    obtain ⟨⟨c, h1, h2, h3⟩, h4⟩ := hv
    exact ⟨⟨c, h1, h2, VR_mono hn h _ c h3⟩, CAt_mono hn h vs f _ h4⟩
end
end mono

section
variable {ρ : Nat → Loc} {n : Nat}

theorem VRs_length : ∀ {vs : List AV} {cs : List Value}, VRs ρ n vs cs → vs.length = cs.length
  | [], cs, h => by simp only [VRs] at h; simp [h]
  | v :: vs, cs, h => by
    simp only [VRs] at h
    obtain ⟨c, cr, rfl, _, h3⟩ := h
    simp [VRs_length h3]

theorem VRs_append : ∀ {vs us : List AV} {cs ds : List Value}, VRs ρ n vs cs → VRs ρ n us ds → VRs ρ n (vs ++ us) (cs ++ ds)
  | [], us, cs, ds, h, h' => by simp only [VRs] at h; subst h; simpa using h'
  | v :: vs, us, cs, ds, h, h' => by
    simp only [VRs] at h
    obtain ⟨c, cr, rfl, h2, h3⟩ := h
    simp only [List.cons_append, VRs]
    exact ⟨c, cr ++ ds, rfl, h2, VRs_append h3 h'⟩

theorem VRs_get : ∀ {vs : List AV} {cs : List Value} {i : Nat} {v : AV}, VRs ρ n vs cs → vs[i]? = some v → ∃ c, cs[i]? = some c ∧ VR ρ n v c
  | [], cs, i, v, h, hi => by simp at hi
  | u :: vs, cs, 0, v, h, hi => by
    simp only [VRs] at h
    obtain ⟨c, cr, rfl, h2, h3⟩ := h
    simp at hi; subst hi
    exact ⟨c, by simp, h2⟩
  | u :: vs, cs, i + 1, v, h, hi => by
    simp only [VRs] at h
    obtain ⟨c, cr, rfl, h2, h3⟩ := h
    simpa using VRs_get h3 (by simpa using hi)

/-- a list's head that is no row of whole numbers is one cell -/
theorem CAt_cons {f : Nat → Option Value} {v : AV} {vs : List AV} {off : Nat} (hv : ∀ k m xs, v ≠ .ints k m xs) :
    CAt ρ n f (v :: vs) off ↔ ((∃ c, f off = some c ∧ c.oneCell' = true ∧ VR ρ n v c) ∧ CAt ρ n f vs (off + 1)) := by
  cases v <;> first | (exact absurd rfl (hv _ _ _)) | simp only [CAt]

theorem AV.sz_one {v : AV} (hv : ∀ k m xs, v ≠ .ints k m xs) : v.sz = 1 := by
  cases v <;> first | rfl | (exact absurd rfl (hv _ _ _))

theorem asz_append : ∀ (a b : List AV), asz (a ++ b) = asz a + asz b
  | [], b => by simp [asz]
  | v :: a, b => by simp [asz, asz_append a b, Nat.add_assoc]

theorem CAt_append (f : Nat → Option Value) : ∀ (a b : List AV) (off : Nat), CAt ρ n f (a ++ b) off ↔ (CAt ρ n f a off ∧ CAt ρ n f b (off + asz a))
  | [], b, off => by simp [CAt, asz]
  | v :: a, b, off => by
    by_cases hv : ∃ k m xs, v = .ints k m xs
    · obtain ⟨k, m, xs, rfl⟩ := hv
      simp only [List.cons_append, CAt, CAt_append f a b, asz, AV.sz, and_assoc, Nat.add_assoc]
    · have hv' : ∀ k m xs, v ≠ .ints k m xs := fun k m xs e => hv ⟨k, m, xs, e⟩
      rw [List.cons_append, CAt_cons hv', CAt_cons hv', CAt_append f a b]
      simp only [asz, AV.sz_one hv', and_assoc, Nat.add_assoc]

/-- only the cells in question matter -/
theorem CAt_congr {f g : Nat → Option Value} : ∀ (vs : List AV) (off : Nat), (∀ j, off ≤ j → j < off + asz vs → g j = f j) → CAt ρ n f vs off → CAt ρ n g vs off
  | [], off, h, hv => by simp only [CAt]
  | v :: vs, off, h, hv => by
    by_cases hi : ∃ k m xs, v = .ints k m xs
    · obtain ⟨k, m, xs, rfl⟩ := hi
      simp only [CAt, asz, AV.sz] at hv h ⊢
      refine ⟨⟨hv.1.1, fun j hj => ?_⟩, CAt_congr vs _ (fun j h1 h2 => h j (by omega) (by omega)) hv.2⟩
      rw [h _ (by omega) (by omega)]; exact hv.1.2 j hj
    · have hv' : ∀ k m xs, v ≠ .ints k m xs := fun k m xs e => hi ⟨k, m, xs, e⟩
      rw [CAt_cons hv'] at hv ⊢
      simp only [asz, AV.sz_one hv'] at h
      obtain ⟨⟨c, h1, h2⟩, h3⟩ := hv
      exact ⟨⟨c, by rw [h _ (by omega) (by omega)]; exact h1, h2⟩, CAt_congr vs _ (fun j g1 g2 => h j (by omega) (by omega)) h3⟩

/-- the same cells, counted from elsewhere -/
theorem CAt_shift {f g : Nat → Option Value} (d : Nat) : ∀ (vs : List AV) (off : Nat), (∀ j, j < asz vs → g (off + j) = f (off + d + j)) → CAt ρ n f vs (off + d) → CAt ρ n g vs off
  | [], off, h, hv => by simp only [CAt]
  | v :: vs, off, h, hv => by
    by_cases hi : ∃ k m xs, v = .ints k m xs
    · obtain ⟨k, m, xs, rfl⟩ := hi
      simp only [CAt, asz, AV.sz] at hv h ⊢
      refine ⟨⟨hv.1.1, fun j hj => ?_⟩, ?_⟩
      · rw [h _ (by omega)]; exact hv.1.2 j hj
      · refine CAt_shift d vs (off + m) (fun j hj => ?_) (by rw [show off + m + d = off + d + m by omega]; exact hv.2)
        rw [show off + m + j = off + (m + j) by omega, h _ (by omega)]; congr 1; omega
    · have hv' : ∀ k m xs, v ≠ .ints k m xs := fun k m xs e => hi ⟨k, m, xs, e⟩
      rw [CAt_cons hv'] at hv ⊢
      simp only [asz, AV.sz_one hv'] at h
      obtain ⟨⟨c, h1, h2⟩, h3⟩ := hv
      refine ⟨⟨c, by have := h 0 (by omega); simp only [Nat.add_zero] at this; rw [this]; exact h1, h2⟩, ?_⟩
      refine CAt_shift d vs (off + 1) (fun j hj => ?_) (by rw [show off + 1 + d = off + d + 1 by omega]; exact h3)
      rw [show off + 1 + j = off + (1 + j) by omega, h _ (by omega)]; congr 1; omega

/-- each cell of the list is there, and one cell -/
theorem CAt_cell {f : Nat → Option Value} : ∀ (vs : List AV) (off j : Nat), CAt ρ n f vs off → off ≤ j → j < off + asz vs → ∃ c, f j = some c ∧ c.oneCell' = true
  | [], off, j, hv, h1, h2 => by simp [asz] at h2; omega
  | v :: vs, off, j, hv, h1, h2 => by
    by_cases hi : ∃ k m xs, v = .ints k m xs
    · obtain ⟨k, m, xs, rfl⟩ := hi
      simp only [CAt, asz, AV.sz] at hv h2
      by_cases hj : j < off + m
      · refine ⟨.int k (xs.getD (j - off) 0), ?_, ?_⟩
        · have := hv.1.2 (j - off) (by omega)
          rwa [show off + (j - off) = j by omega] at this
        · rfl
      · exact CAt_cell vs (off + m) j hv.2 (by omega) (by omega)
    · have hv' : ∀ k m xs, v ≠ .ints k m xs := fun k m xs e => hi ⟨k, m, xs, e⟩
      rw [CAt_cons hv'] at hv
      simp only [asz, AV.sz_one hv'] at h2
      obtain ⟨⟨c, g1, g2, _⟩, h3⟩ := hv
      by_cases hj : j = off
      · subst hj; exact ⟨c, g1, g2⟩
      · exact CAt_cell vs (off + 1) j h3 (by omega) (by omega)

theorem isCell_not_ints {v : AV} (h : v.isCell = true) : ∀ k m xs, v ≠ .ints k m xs := by
  intro k m xs e; subst e; simp [AV.isCell] at h

theorem VR_isCell {v : AV} {c : Value} (hv : v.isCell = true) (h : VR ρ n v c) : c.oneCell' = true := by
  cases v <;> simp only [AV.isCell, Bool.false_eq_true] at hv <;> simp only [VR] at h
  · subst h; rfl
  · subst h; rfl
  · subst h; rfl
  · rw [h.1]; exact h.2
  · rw [h.2]; rfl
  · obtain ⟨_, ad, c, rfl, _⟩ := h; rfl
  · rw [h.2]; rfl
  · obtain ⟨cs, rfl, _⟩ := h; rfl

/-! ### slots -/
theorem FSat_mono {ρ' : Nat → Loc} {n' : Nat} {fr : Fr} {tmps : Array Value} (hn : n ≤ n') (h : ∀ b, b < n → ρ' b = ρ b) (hf : FSat ρ n fr tmps) : FSat ρ' n' fr tmps :=
  fun t v ht => VR_mono hn h v _ (hf t v ht)

theorem getK_eq {t : Nat} {K : AV → Prop} : ∀ {fr : Fr}, getK t fr K = K ((Fr.find fr t).getD .top)
  | [] => rfl
  | (u, v) :: r => by
    simp only [getK, Fr.find]
    cases Nat.beq u t with
    | true => rfl
    | false => exact getK_eq (fr := r)

theorem getK_sound {tmps : Array Value} {t : Nat} {K : AV → Prop} {fr : Fr} (hf : FSat ρ n fr tmps) (h : getK t fr K) : ∃ v, K v ∧ VR ρ n v (tmps.getD t undef) := by
  rw [getK_eq] at h
  refine ⟨_, h, ?_⟩
  cases e : Fr.find fr t with
  | none => simp only [Option.getD_none, VR]
  | some v => exact hf t v e

theorem putK_find {t : Nat} {v : AV} : ∀ {fr : Fr} {K : Fr → Prop}, putK t v fr K → ∃ fr', K fr' ∧ ∀ t', Fr.find fr' t' = if t' = t then some v else Fr.find fr t'
  | [], K, h => ⟨_, h, fun t' => by
      by_cases e : t' = t
      · subst e; simp [Fr.find]
      · have : Nat.beq t t' = false := by
          cases hb : Nat.beq t t' with
          | true => exact absurd (Nat.eq_of_beq_eq_true hb).symm e
          | false => rfl
        simp [Fr.find, e, this]⟩
  | (u, x) :: r, K, h => by
    simp only [putK] at h
    cases e : Nat.beq u t with
    | true =>
      simp only [e] at h
      have e' := Nat.eq_of_beq_eq_true e
      subst e'
      refine ⟨_, h, fun t' => ?_⟩
      by_cases g : t' = u
      · subst g; simp [Fr.find]
      · have : Nat.beq u t' = false := by
          cases hb : Nat.beq u t' with
          | true => exact absurd (Nat.eq_of_beq_eq_true hb).symm g
          | false => rfl
        simp [Fr.find, g, this]
    | false =>
      simp only [e] at h
      obtain ⟨fr', hK, hfr⟩ := putK_find h
      refine ⟨_, hK, fun t' => ?_⟩
      simp only [Fr.find, hfr]
      cases hb : Nat.beq u t' with
      | true =>
        have g : t' ≠ t := by
          intro g; subst g; rw [hb] at e; cases e
        simp [g]
      | false => rfl

theorem putK_sound {tmps : Array Value} {t : Nat} {v : AV} {c : Value} {fr : Fr} {K : Fr → Prop} (ht : t < tmps.size) (hv : VR ρ n v c) (hf : FSat ρ n fr tmps) (h : putK t v fr K) :
    ∃ fr', K fr' ∧ FSat ρ n fr' (tmps.setIfInBounds t c) := by
  obtain ⟨fr', hK, hfr⟩ := putK_find h
  refine ⟨fr', hK, fun t' v' h' => ?_⟩
  rw [hfr] at h'
  by_cases e : t' = t
  · subst e
    simp only [if_true] at h'
    cases h'
    simp only [Array.getD_eq_getD_getElem?, Array.getElem?_setIfInBounds_self_of_lt ht]
    exact hv
  · simp only [e, if_false] at h'
    have := hf t' v' h'
    rwa [Array.getD_eq_getD_getElem?, Array.getElem?_setIfInBounds_ne (fun h => e h.symm), ← Array.getD_eq_getD_getElem?]

theorem keepK_find {keep : Nat → Bool} : ∀ {fr : Fr} {K : Fr → Prop}, keepK keep fr K → ∃ fr', K fr' ∧ ∀ t v, Fr.find fr' t = some v → Fr.find fr t = some v
  | [], K, h => ⟨_, h, fun t v h => h⟩
  | (u, x) :: r, K, h => by
    suffices H : ∃ fr', K fr' ∧ ∀ t, Fr.find fr' t = if keep t then Fr.find ((u, x) :: r) t else none by
      obtain ⟨fr', hK, hfr⟩ := H
      refine ⟨fr', hK, fun t v hv => ?_⟩
      rw [hfr] at hv
      split at hv
      · exact hv
      · cases hv
    exact key _ _ h
where
  key : ∀ (fr : Fr) (K : Fr → Prop), keepK keep fr K → ∃ fr', K fr' ∧ ∀ t, Fr.find fr' t = if keep t then Fr.find fr t else none
  | [], K, h => ⟨_, h, fun t => by simp [Fr.find]⟩
  | (u, x) :: r, K, h => by
    simp only [keepK] at h
    cases e : keep u with
    | true =>
      simp only [e] at h
      obtain ⟨fr', hK, hfr⟩ := key r _ h
      refine ⟨_, hK, fun t => ?_⟩
      simp only [Fr.find, hfr]
      cases hb : Nat.beq u t with
      | true =>
        have := Nat.eq_of_beq_eq_true hb
        subst this
        simp [e]
      | false => rfl
    | false =>
      simp only [e] at h
      obtain ⟨fr', hK, hfr⟩ := key r _ h
      refine ⟨fr', hK, fun t => ?_⟩
      rw [hfr]
      simp only [Fr.find]
      cases hb : Nat.beq u t with
      | true =>
        have := Nat.eq_of_beq_eq_true hb
        subst this
        simp [e]
      | false => rfl

theorem keepK_sound {keep : Nat → Bool} {tmps : Array Value} {fr : Fr} {K : Fr → Prop} (hf : FSat ρ n fr tmps) (h : keepK keep fr K) : ∃ fr', K fr' ∧ FSat ρ n fr' tmps := by
  obtain ⟨fr', hK, hfr⟩ := keepK_find h
  exact ⟨fr', hK, fun t v hv => hf t v (hfr t v hv)⟩

theorem avK_sound {a : Act} {fr : Fr} {o : Operand} {K : AV → Prop} (hf : FSat ρ n fr a.tmps) (h : avK fr o K) : ∃ v, K v ∧ VR ρ n v (a.eval o) := by
  unfold avK at h
  split at h
  · exact getK_sound hf h
  · split at h
    · exact ⟨_, h, by simp [VR, Act.eval]⟩
    · exact ⟨_, h, by simp [VR, Act.eval]⟩
    · exact ⟨_, h, by simp [VR, Act.eval]⟩
    · exact ⟨_, h, by simp [VR, Act.eval, Value.oneCell']⟩
    · exact ⟨_, h, by simp [VR, Act.eval, Value.oneCell']⟩
    · exact ⟨_, h, by simp [VR, Act.eval, Value.oneCell']⟩
    · exact ⟨_, h, by simp [VR, Act.eval, Value.oneCell']⟩
    · exact ⟨_, h, by simp [VR, Act.eval, Value.oneCell']⟩
    · exact ⟨_, h, by simp only [VR]⟩
  · exact ⟨_, h, by simp only [VR, Act.eval]; exact ⟨[], rfl, by simp only [VRs]⟩⟩
  · exact ⟨_, h, by simp only [VR]⟩

theorem avsK_sound {a : Act} {fr : Fr} : ∀ {os : List Operand} {K : List AV → Prop}, FSat ρ n fr a.tmps → avsK fr os K → ∃ vs, K vs ∧ VRs ρ n vs (os.map a.eval)
  | [], K, hf, h => ⟨[], h, by simp only [VRs, List.map_nil]⟩
  | o :: r, K, hf, h => by
    simp only [avsK] at h
    obtain ⟨v, h1, hv⟩ := avK_sound hf h
    obtain ⟨vs, h2, hvs⟩ := avsK_sound hf h1
    exact ⟨_, h2, by simp only [VRs, List.map_cons]; exact ⟨_, _, rfl, hv, hvs⟩⟩

/-- parts of a literal: the places are the same, the values correspond -/
def VRp (ρ : Nat → Loc) (n : Nat) : List (Nat × AV) → List (Nat × Value) → Prop
  | [], cs => cs = []
  | (i, v) :: vs, cs => ∃ c cr, cs = (i, c) :: cr ∧ VR ρ n v c ∧ VRp ρ n vs cr

theorem avpK_sound {a : Act} {fr : Fr} : ∀ {os : List (Nat × Operand)} {K : List (Nat × AV) → Prop}, FSat ρ n fr a.tmps → avpK fr os K →
    ∃ vs, K vs ∧ VRp ρ n vs (os.map fun p => (p.1, a.eval p.2))
  | [], K, hf, h => ⟨[], h, by simp only [VRp, List.map_nil]⟩
  | (i, o) :: r, K, hf, h => by
    simp only [avpK] at h
    obtain ⟨v, h1, hv⟩ := avK_sound hf h
    obtain ⟨vs, h2, hvs⟩ := avpK_sound hf h1
    exact ⟨_, h2, by simp only [VRp, List.map_cons]; exact ⟨_, _, rfl, hv, hvs⟩⟩

theorem avoK_sound {a : Act} {fr : Fr} {o : Option Operand} {K : Option AV → Prop} (hf : FSat ρ n fr a.tmps) (h : avoK fr o K) :
    ∃ v, K v ∧ match v, o.map a.eval with | none, none => True | some v, some c => VR ρ n v c | _, _ => False := by
  cases o with
  | none => exact ⟨none, h, trivial⟩
  | some o =>
    simp only [avoK] at h
    obtain ⟨v, h1, hv⟩ := avK_sound hf h
    exact ⟨_, h1, by simpa using hv⟩
end

/-! ### blocks -/
theorem entK_sound : ∀ {hp : Hp} {b : Nat} {K : Ent → Prop}, entK hp b K → ∃ e, hp[b]? = some e ∧ K e
  | [], b, K, h => h.elim
  | e :: r, 0, K, h => ⟨e, by simp, h⟩
  | e :: r, b + 1, K, h => by
    obtain ⟨x, h1, h2⟩ := entK_sound (hp := r) (b := b) h
    exact ⟨x, by simpa using h1, h2⟩

theorem setEntK_sound : ∀ {hp : Hp} {b : Nat} {x : Ent} {K : Hp → Prop}, setEntK hp b x K → b < hp.length ∧ K (hp.set b x)
  | [], b, x, K, h => h.elim
  | e :: r, 0, x, K, h => ⟨by simp, h⟩
  | e :: r, b + 1, x, K, h => by
    obtain ⟨h1, h2⟩ := setEntK_sound (hp := r) (b := b) h
    exact ⟨by simpa using h1, h2⟩

def dropV (b : Nat) (hp : Hp) : Hp := hp.map fun e => if e.par = some b then ⟨e.esz, e.ro, e.par, .gone⟩ else e

theorem dropViewsK_sound (b : Nat) : ∀ {hp : Hp} {K : Hp → Prop}, dropViewsK b hp K → K (dropV b hp)
  | [], K, h => h
  | e :: r, K, h => by
    simp only [dropViewsK] at h
    split at h
    · rename_i p hp
      split at h
      · rename_i hb
        have hb' : p = b := Nat.eq_of_beq_eq_true hb
        have := dropViewsK_sound b h
        simpa [dropV, hp, hb'] using this
      · rename_i hb
        have hb' : p ≠ b := fun e => by subst e; simp at hb
        have := dropViewsK_sound b h
        simpa [dropV, hp, hb'] using this
    · rename_i hp
      have := dropViewsK_sound b h
      simpa [dropV, hp] using this

theorem newEntK_sound (e : Ent) : ∀ {hp : Hp} {K : Nat → Hp → Prop}, newEntK e hp K → K hp.length (hp ++ [e])
  | [], K, h => h
  | x :: r, K, h => newEntK_sound e (hp := r) h

theorem setObjK_sound {hp : Hp} {b : Nat} {e : Ent} {o : AObj} {K : Hp → Prop} (h : setObjK hp b e o K) : b < hp.length ∧ K ((dropV b hp).set b ⟨e.esz, e.ro, e.par, o⟩) := by
  have := setEntK_sound (dropViewsK_sound b h)
  simpa [dropV] using this

/-! ### lists of cells -/
theorem sub_back {s m A : Nat} (h : s ≤ m) (h2 : A = m - s) : s + A = m := by omega

theorem dropK_sound : ∀ {vs : List AV} {off : Nat} {K : List AV → Prop}, dropK vs off K → ∃ a r, vs = a ++ r ∧ asz a = off ∧ K r
  | vs, 0, K, h => ⟨[], vs, rfl, rfl, by simpa [dropK] using h⟩
  | [], _ + 1, K, h => h.elim
  | v :: vs, n + 1, K, h => by
    simp only [dropK] at h
    split at h
    · rename_i hb
      have hb' : v.sz ≤ n + 1 := Nat.le_of_ble_eq_true hb
      obtain ⟨a, r, h1, h2, h3⟩ := dropK_sound h
      exact ⟨v :: a, r, by simp [h1], sub_back hb' h2, h3⟩
    · exact h.elim

theorem takeK_sound : ∀ {vs : List AV} {m : Nat} {K : List AV → Prop}, takeK vs m K → ∃ a r, vs = a ++ r ∧ asz a = m ∧ K a
  | vs, 0, K, h => ⟨[], vs, rfl, rfl, by simpa [takeK] using h⟩
  | [], _ + 1, K, h => h.elim
  | v :: vs, n + 1, K, h => by
    simp only [takeK] at h
    split at h
    · rename_i hb
      have hb' : v.sz ≤ n + 1 := Nat.le_of_ble_eq_true hb
      obtain ⟨a, r, h1, h2, h3⟩ := takeK_sound h
      exact ⟨v :: a, r, by simp [h1], sub_back hb' h2, h3⟩
    · exact h.elim

theorem appK_sound : ∀ {a b : List AV} {K : List AV → Prop}, appK a b K → K (a ++ b)
  | [], b, K, h => h
  | v :: a, b, K, h => appK_sound (a := a) h

theorem putSegsK_sound {new : List AV} : ∀ {vs : List AV} {off : Nat} {K : List AV → Prop}, putSegsK new vs off K →
    ∃ a m c, vs = a ++ m ++ c ∧ asz a = off ∧ asz m = asz new ∧ K (a ++ new ++ c)
  | vs, 0, K, h => by
    have h' : dropK vs (asz new) fun r => appK new r K := by simpa [putSegsK] using h
    obtain ⟨m, c, h1, h2, h3⟩ := dropK_sound h'
    exact ⟨[], m, c, by simpa using h1, rfl, h2, by simpa using appK_sound h3⟩
  | [], _ + 1, K, h => h.elim
  | v :: vs, n + 1, K, h => by
    simp only [putSegsK] at h
    split at h
    · rename_i hb
      have hb' : v.sz ≤ n + 1 := Nat.le_of_ble_eq_true hb
      obtain ⟨a, m, c, h1, h2, h3, h4⟩ := putSegsK_sound h
      exact ⟨v :: a, m, c, by simp [h1], sub_back hb' h2, h3, by simpa using h4⟩
    · exact h.elim

theorem loadSegK_sound : ∀ {vs : List AV} {off j : Nat} {K : AV → Prop}, loadSegK vs off j K →
    ∃ a v c, vs = a ++ v :: c ∧ asz a = off ∧ ((∃ k m xs, v = .ints k m xs ∧ j < m ∧ K (.int k (xs.getD j 0))) ∨ (v.isCell = true ∧ j = 0 ∧ K v))
  | [], off, j, K, h => by cases off <;> exact h.elim
  | v :: vs, 0, j, K, h => by
    refine ⟨[], v, vs, rfl, rfl, ?_⟩
    cases v with
    | ints k m xs => simp only [loadSegK] at h; exact .inl ⟨k, m, xs, rfl, h⟩
    | _ =>
      simp only [loadSegK] at h
      split at h
      · rename_i h1 h2; exact .inr ⟨by first | exact h1 | rfl, Nat.eq_of_beq_eq_true h2, h⟩
      · exact h.elim
  | v :: vs, n + 1, j, K, h => by
    simp only [loadSegK] at h
    split at h
    · rename_i hb
      have hb' : v.sz ≤ n + 1 := Nat.le_of_ble_eq_true hb
      obtain ⟨a, u, c, h1, h2, h3⟩ := loadSegK_sound h
      exact ⟨v :: a, u, c, by simp [h1], sub_back hb' h2, h3⟩
    · exact h.elim

theorem storeSegK_sound {x : AV} : ∀ {vs : List AV} {off j : Nat} {K : List AV → Prop}, storeSegK x vs off j K →
    ∃ a v c, vs = a ++ v :: c ∧ asz a = off ∧ ((∃ k m xs y, v = .ints k m xs ∧ x = .int k y ∧ j < m ∧ K (a ++ .ints k m (xs.set j y) :: c)) ∨
      ((∀ k m xs, v ≠ .ints k m xs) ∧ x.isCell = true ∧ j = 0 ∧ K (a ++ x :: c)))
  | [], off, j, K, h => by cases off <;> exact h.elim
  | v :: vs, 0, j, K, h => by
    refine ⟨[], v, vs, rfl, rfl, ?_⟩
    cases v with
    | ints k m xs =>
      simp only [storeSegK] at h
      split at h
      · rename_i k' y
        split at h
        · rename_i hk
          have hk' : k = k' := of_decide_eq_true hk
          subst hk'
          exact .inl ⟨k, m, xs, y, rfl, rfl, h⟩
        · exact h.elim
      · exact h.elim
    | _ =>
      simp only [storeSegK] at h
      split at h
      · rename_i h1 h2; exact .inr ⟨by simp, h1, Nat.eq_of_beq_eq_true h2, h⟩
      · exact h.elim
  | v :: vs, n + 1, j, K, h => by
    simp only [storeSegK] at h
    split at h
    · rename_i hb
      have hb' : v.sz ≤ n + 1 := Nat.le_of_ble_eq_true hb
      obtain ⟨a, u, c, h1, h2, h3⟩ := storeSegK_sound h
      exact ⟨v :: a, u, c, by simp [h1], sub_back hb' h2, by simpa using h3⟩
    · exact h.elim

end Go.Aw
