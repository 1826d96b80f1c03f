/-
  AwM: a call seen from a smaller memory; a function's contract from its body; scopes with labels. Own work of this session.
-/
import Derived.Test.YtdababcblhbpeaaAwL
import Derived.Scope
set_option linter.unusedVariables false
set_option linter.unusedSimpArgs false
namespace Go.Aw

section
variable {P : Program} {T : Tab} {N M : Nat}

/-- the slots at a function's start -/
def frOf : Nat → List AV → Fr
  | _, [] => []
  | i, v :: r => (i, v) :: frOf (i + 1) r

theorem frOf_find : ∀ (vs : List AV) (i t : Nat) (v : AV), Fr.find (frOf i vs) t = some v → i ≤ t ∧ vs[t - i]? = some v
  | [], i, t, v, h => by simp [frOf, Fr.find] at h
  | x :: r, i, t, v, h => by
    simp only [frOf, Fr.find] at h
    split at h
    · rename_i hb
      have := Nat.eq_of_beq_eq_true hb
      subst this
      simp at h; subst h
      simp
    · rename_i hb
      obtain ⟨h1, h2⟩ := frOf_find r (i + 1) t v h
      refine ⟨by omega, ?_⟩
      rw [show t - i = (t - (i + 1)) + 1 by omega]
      simpa using h2

/-- what a function brings home -/
def res1K (T : Tab) (fr : Fr) (hp : Hp) (r : ResultVar) (K : AV → Prop) : Prop :=
  match r with
  | .tmp t => getK t fr K
  | .cell a t => getK a fr fun p => evLoad T hp t p K
def ressK (T : Tab) (fr : Fr) (hp : Hp) : List ResultVar → (List AV → Prop) → Prop
  | [], K => K []
  | r :: rs, K => res1K T fr hp r fun v => ressK T fr hp rs fun vs => K (v :: vs)
def resK (T : Tab) (rs : List ResultVar) (K : AV → Hp → Prop) (fr : Fr) (hp : Hp) : Prop :=
  ressK T fr hp rs fun vs => match vs with
    | [v] => K v hp
    | vs => K (.tup vs) hp

def res1 (tmps : Array Value) : ResultVar → Sem Value
  | .tmp t => pure (tmps.getD t undef)
  | .cell a t => do loadVar t (← asAddr (tmps.getD a undef))

theorem ressK_sound (hT : TOk P T) {w0 : Base} {w : World} {ρ : Nat → Loc} {hp : Hp} (hs : HSat w0 ρ hp w) {fr : Fr} {tmps : Array Value} (hf : FSat ρ hp.length fr tmps) :
    ∀ {rs : List ResultVar} {K : List AV → Prop}, ressK T fr hp rs K → ∃ (vs : List AV) (cs : List Value), K vs ∧ VRs ρ hp.length vs cs ∧
      (rs.mapM (m := Sem) (res1 tmps)).run P w = .ok cs w
  | [], K, h => ⟨[], [], h, by simp [VRs], by simp⟩
  | r :: rs, K, h => by
    simp only [ressK] at h
    have h1 : ∃ v cv, ressK T fr hp rs (fun vs => K (v :: vs)) ∧ VR ρ hp.length v cv ∧
        (res1 tmps r).run P w = .ok cv w := by
      cases r with
      | tmp t =>
        obtain ⟨v, k1, k2⟩ := getK_sound hf h
        exact ⟨v, _, k1, k2, by simp [res1]⟩
      | cell a t =>
        obtain ⟨p, k1, k2⟩ := getK_sound hf h
        obtain ⟨v, cv, k3, k4, k5⟩ := evLoad_sound hT hs k2 k1
        refine ⟨v, cv, k3, k5, ?_⟩
        cases p <;> simp only [evLoad] at k1
        simp only [VR] at k2
        rw [k2.2] at k4
        simp only [res1]
        rw [k2.2]
        simpa [Instr.loadAt, Instr.sureAddr, asAddr] using k4
    obtain ⟨v, cv, k1, k2, k3⟩ := h1
    obtain ⟨vs, cs, k4, k5, k6⟩ := ressK_sound hT hs hf k1
    refine ⟨v :: vs, cv :: cs, k4, by simp only [VRs]; exact ⟨_, _, rfl, k2, k5⟩, ?_⟩
    rw [List.mapM_cons]
    simp only [Sem.run_bind]
    rw [k3]
    simp only [Result.andThen_ok, Sem.run_bind]
    rw [k6]
    simp

theorem resK_sound (hT : TOk P T) {w0 : Base} {w : World} {ρ : Nat → Loc} {hp : Hp} (hs : HSat w0 ρ hp w) {fr : Fr} {tmps : Array Value} (hf : FSat ρ hp.length fr tmps) {fn : Func} {K : AV → Hp → Prop}
    (h : resK T fn.results.toList K fr hp) : ∃ v cv, K v hp ∧ VR ρ hp.length v cv ∧ (results fn tmps).run P w = .ok cv w := by
  obtain ⟨vs, cs, h1, h2, h3⟩ := ressK_sound hT hs hf h
  have h4 : (results fn tmps).run P w = .ok (if h : cs.toArray.size = 1 then cs.toArray[0] else .tuple cs.toArray) w := by
    have hr : results fn tmps = (do let vs ← fn.results.mapM (res1 tmps); pure (if h : vs.size = 1 then vs[0] else .tuple vs)) := rfl
    rw [hr, ← Array.toArray_toList (xs := fn.results)]
    rw [List.mapM_toArray]
    simp only [Sem.run_bind, Sem.run_map]
    rw [h3]
    simp
  rw [h4]
  split at h1
  · rename_i v
    simp only [VRs] at h2
    obtain ⟨c, cr, rfl, h5, rfl⟩ := h2
    exact ⟨v, c, h1, h5, by simp⟩
  · rename_i vs hvs
    refine ⟨_, .tuple cs.toArray, h1, by simp only [VR]; exact ⟨cs, rfl, h2⟩, ?_⟩
    rw [dif_neg]
    intro g
    have hl := VRs_length h2
    simp only [List.size_toArray] at g
    rw [g] at hl
    obtain ⟨v, hv⟩ := List.length_eq_one_iff.mp hl
    exact hvs v hv

/-- a function's contract, from its body -/
theorem AC.body (hT : TOk P T) {f : FuncId} {fn : Func} {c : Code} {args : List AV} {hp : Hp} {K : AV → Hp → Prop} {rs : List ResultVar} (hf : P.funcs[f]? = some fn) (hb : fn.body = some c) (hN : fn.ntmps = N) (hrs : fn.results.toList = rs)
    (hname : (fn.name == "runtime.NumGoroutine") = false) (hargs : Nat.ble args.length N = true)
    (h : AW P N hp.length c (resK T rs K) [] (fun _ _ _ => False) (resK T rs K) (frOf 0 args) hp) : AC P f args hp K := by
  subst hN; subst hrs
  have hargs : args.length ≤ fn.ntmps := by simpa using hargs
  unfold AC
  refine ⟨⟨fn, hf, hname, by simp [hb]⟩, fun w0 ρ w vs h1 h2 => ?_⟩
  have hl := VRs_length h2
  refine calls_of_wp hf hb ?_
  rw [AW_iff] at h
  refine wp_mono (h w0 ρ _ w h1 ?_ ?_ rfl (Nat.le_refl _)) ?_
  · intro t v hv
    obtain ⟨_, hv⟩ := frOf_find _ _ _ _ hv
    rw [Nat.sub_zero] at hv
    obtain ⟨c, hc, hvc⟩ := VRs_get h2 hv
    have : (vs.toArray ++ Array.replicate (fn.ntmps - vs.toArray.size) undef).getD t undef = c := by
      have ht : t < vs.length := by
        rcases Nat.lt_or_ge t vs.length with g | g
        · exact g
        · rw [List.getElem?_eq_none g] at hc; cases hc
      rw [Array.getD_eq_getD_getElem?, Array.getElem?_append_left (by simpa using ht)]
      simp [hc]
    simp only [this]; exact hvc
  · simp; omega
  · rintro e a' w' ⟨fr', hp', ρ', g, k1, k2, k3, k4, k5, k6⟩
    cases e with
    | normal =>
      obtain ⟨v, cv, q1, q2, q3⟩ := resK_sound hT k1 k2 g
      exact ⟨k4, cv, q3, v, cv, hp', ρ', rfl, q1, q2, k1, k5, k6⟩
    | ret =>
      obtain ⟨v, cv, q1, q2, q3⟩ := resK_sound hT k1 k2 g
      exact ⟨k4, cv, q3, v, cv, hp', ρ', rfl, q1, q2, k1, k5, k6⟩
    | exit id => simp [Goes, List.find?] at g
    | goto l => exact g.elim
    | panic _ => exact g.elim
    | outgrown => exact g.elim

/-- a scope with one label to which only forward jumps lead -/
theorem AW.scope {c rest : Code} (l : Nat) {Kn E G R fr hp} (hl : findLabel c l = some rest)
    (h : AW P N M c Kn E (fun l' fr hp => match Nat.beq l' l with | true => AW P N M rest Kn E (fun _ _ _ => False) R fr hp | false => False) R fr hp) : AW P N M (.scope c) Kn E G R fr hp := by
  rw [AW_iff] at h ⊢
  intro w0 ρ a w h1 h2 h3 h4 h5 b k cs
  obtain ⟨e, a₁, w₁, ⟨fr', hp', ρ', g, k1, k2, k3, k4, k5, k6⟩, harr⟩ := h w0 ρ a w h1 h2 h3 h4 h5 b (.inScope c :: k) cs
  have same : ∀ {e : Exit}, Goes Kn E (fun _ _ _ => False) R e fr' hp' → Post w0 N M ρ Kn E G R e a₁ w₁ := by
    intro e g
    refine ⟨fr', hp', ρ', ?_, k1, k2, k3, k4, k5, k6⟩
    cases e <;> first | exact g | exact g.elim
  cases e with
  | normal => exact ⟨.normal, a₁, w₁, same (e := .normal) g, .head step_scope (Steps.trans harr (.one step_inScope))⟩
  | exit id => exact ⟨.exit id, a₁, w₁, same (e := .exit id) g, fun k' hk => .head step_scope (harr k' (by simp [exitTo, hk]))⟩
  | ret => exact ⟨.ret, a₁, w₁, same (e := .ret) g, .of_steps (.one step_scope) harr⟩
  | panic ch => exact g.elim
  | outgrown => exact g.elim
  | goto l' =>
    simp only [Goes] at g
    split at g
    case h_2 => exact g.elim
    rename_i hb
    have := Nat.eq_of_beq_eq_true hb
    subst this
    rw [AW_iff] at g
    have hg : gotoIn l' (.inScope c :: k) = some (.code rest :: .inScope c :: k) := by simp [gotoIn, hl]
    have harr1 := harr _ hg
    obtain ⟨e2, a₂, w₂, ⟨fr'', hp'', ρ'', g2, q1, q2, q3, q4, q5, q6⟩, harr2⟩ := g w0 ρ' a₁ w₁ k1 k2 k3 k4 k5 b (.inScope c :: k) cs
    have same : ∀ {e : Exit}, Goes Kn E (fun _ _ _ => False) R e fr'' hp'' → Post w0 N M ρ Kn E G R e a₂ w₂ := by
      intro e g
      refine ⟨fr'', hp'', ρ'', ?_, q1, q2, q3, q4, q5, fun b hb => by rw [q6 b hb, k6 b hb]⟩
      cases e <;> first | exact g | exact g.elim
    have hst : Steps P (lone (b.at a (.code (.scope c) :: k)) cs w) (lone (b.at a₁ (.code rest :: .inScope c :: k)) cs w₁) := .head step_scope harr1
    cases e2 with
    | normal => exact ⟨.normal, a₂, w₂, same (e := .normal) g2, hst.trans (Steps.trans harr2 (.one step_inScope))⟩
    | exit id => exact ⟨.exit id, a₂, w₂, same (e := .exit id) g2, fun k' hk => hst.trans (harr2 k' (by simp [exitTo, hk]))⟩
    | ret => exact ⟨.ret, a₂, w₂, same (e := .ret) g2, .of_steps hst harr2⟩
    | goto _ => exact g2.elim
    | panic ch => exact g2.elim
    | outgrown => exact g2.elim
end
end Go.Aw
