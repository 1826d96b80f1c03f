/-
  Own work: parts of the proof: AwO AwCr.
-/
import Derived.Test.YtdababcblhbpeaaM9

section
/-
  AwO: a loop's rounds one by one; a scope with a label to which jumps lead back. Own work.
-/
set_option linter.unusedVariables false
set_option linter.unusedSimpArgs false
namespace Go.Aw
section
variable {P : Program} {T : Tab} {N M : Nat}

/-- so many rounds at most, each walked by itself -/
def rounds (P : Program) (N M : Nat) (c : Code) (E : List (Nat × (Fr → Hp → Prop))) (G : Nat → Fr → Hp → Prop) (R : Fr → Hp → Prop) : Nat → Fr → Hp → Prop
  | 0, _, _ => False
  | n + 1, fr, hp => AW P N M c (rounds P N M c E G R n) E G R fr hp
theorem AW.rounds {c : Code} {Kn E G R fr hp} (n : Nat) (h : Aw.rounds P N M c E G R n fr hp) : AW P N M (.loop c) Kn E G R fr hp := by
  refine AW.loop (fun m fr hp => Aw.rounds P N M c E G R m fr hp) n h ?_
  intro m fr hp hI _
  cases m with
  | zero => exact hI.elim
  | succ m => exact AW.mono hI fun fr hp h => ⟨m, by omega, h⟩

/-- a scope with one label, to which jumps lead from anywhere: what holds at each jump; the number falls -/
theorem AW.scopeLoop {c rest : Code} (l : Nat) {Kn E G R fr hp} (hl : findLabel c l = some rest) (I : Nat → Fr → Hp → Prop)
    (h : AW P N M c Kn E (fun l' fr hp => match Nat.beq l' l with | true => ∃ n, I n fr hp | false => False) R fr hp)
    (round : ∀ n fr hp, I n fr hp → AW P N M rest Kn E (fun l' fr' hp' => match Nat.beq l' l with | true => ∃ m, m < n ∧ I m fr' hp' | false => False) R fr hp) :
    AW P N M (.scope c) Kn E G R fr hp := by
  rw [AW_iff] at h ⊢
  intro w0 ρ a w h1 h2 h3 h4 h5 b k cs
  have key : ∀ (n : Nat) (fr : Fr) (hp : Hp) (ρ' : Nat → Loc) (a : Act) (w : World), I n fr hp → HSat w0 ρ' hp w → FSat ρ' hp.length fr a.tmps → a.tmps.size = N → a.defers = w0.ds → M ≤ hp.length →
      (∀ b, b < M → ρ' b = ρ b) → ∃ e2 a2 w2, Post w0 N M ρ Kn E G R e2 a2 w2 ∧ Arrives P (lone (b.at a (.code rest :: .inScope c :: k)) cs w) b k cs e2 a2 w2 := by
    intro n
    induction n using Nat.strongRecOn with
    | _ n ih =>
      intro fr hp ρ' a w hI g1 g2 g3 g4 g5 g6
      have hr := round n fr hp hI
      rw [AW_iff] at hr
      obtain ⟨e, a₁, w₁, ⟨fr', hp', ρ'', g, k1, k2, k3, k4, k5, k6⟩, harr⟩ := hr w0 ρ' a w g1 g2 g3 g4 g5 b (.inScope c :: k) cs
      have k7 : ∀ b, b < M → ρ'' b = ρ b := fun b hb => by rw [k6 b hb, g6 b hb]
      have same : ∀ {e : Exit}, Goes Kn E (fun _ _ _ => False) R e fr' hp' → Post w0 N M ρ Kn E G R e a₁ w₁ := by
        intro e g
        refine ⟨fr', hp', ρ'', ?_, k1, k2, k3, k4, k5, k7⟩
        cases e <;> first | exact g | exact g.elim
      cases e with
      | normal => exact ⟨.normal, a₁, w₁, same (e := .normal) g, Steps.trans harr (.one step_inScope)⟩
      | exit id => exact ⟨.exit id, a₁, w₁, same (e := .exit id) g, fun k' hk => harr k' (by simp [exitTo, hk])⟩
      | ret => exact ⟨.ret, a₁, w₁, same (e := .ret) g, harr⟩
      | panic ch => exact g.elim
      | outgrown => exact g.elim
      | goto l' =>
        simp only [Goes] at g
        split at g
        case h_2 => exact g.elim
        rename_i hb
        have := Nat.eq_of_beq_eq_true hb
        subst this
        obtain ⟨m, hm, hI'⟩ := g
        obtain ⟨e2, a2, w2, q1, q2⟩ := ih m hm fr' hp' ρ'' a₁ w₁ hI' k1 k2 k3 k4 k5 k7
        exact ⟨e2, a2, w2, q1, .of_steps (harr _ (by simp [gotoIn, hl])) q2⟩
  obtain ⟨e, a₁, w₁, ⟨fr', hp', ρ', g, k1, k2, k3, k4, k5, k6⟩, harr⟩ := h w0 ρ a w h1 h2 h3 h4 h5 b (.inScope c :: k) cs
  have same : ∀ {e : Exit}, Goes Kn E (fun _ _ _ => False) R e fr' hp' → Post w0 N M ρ Kn E G R e a₁ w₁ := by
    intro e g
    refine ⟨fr', hp', ρ', ?_, k1, k2, k3, k4, k5, k6⟩
    cases e <;> first | exact g | exact g.elim
  cases e with
  | normal => exact ⟨.normal, a₁, w₁, same (e := .normal) g, .head step_scope (Steps.trans harr (.one step_inScope))⟩
  | exit id => exact ⟨.exit id, a₁, w₁, same (e := .exit id) g, fun k' hk => .head step_scope (harr k' (by simp [exitTo, hk]))⟩
  | ret => exact ⟨.ret, a₁, w₁, same (e := .ret) g, .of_steps (.one step_scope) harr⟩
  | panic ch => exact g.elim
  | outgrown => exact g.elim
  | goto l' =>
    simp only [Goes] at g
    split at g
    case h_2 => exact g.elim
    rename_i hb
    have := Nat.eq_of_beq_eq_true hb
    subst this
    obtain ⟨n, hI⟩ := g
    have hg : gotoIn l' (.inScope c :: k) = some (.code rest :: .inScope c :: k) := by simp [gotoIn, hl]
    obtain ⟨e2, a2, w2, q1, q2⟩ := key n fr' hp' ρ' a₁ w₁ hI k1 k2 k3 k4 k5 k6
    exact ⟨e2, a2, w2, q1, .of_steps (.head step_scope (harr _ hg)) q2⟩

theorem AW.conseq {c : Code} {Kn Kn' : Fr → Hp → Prop} {E} {G G' : Nat → Fr → Hp → Prop} {R R' : Fr → Hp → Prop} {fr hp} (h : AW P N M c Kn E G R fr hp) (hK : ∀ fr hp, Kn fr hp → Kn' fr hp) (hG : ∀ l fr hp, G l fr hp → G' l fr hp) (hR : ∀ fr hp, R fr hp → R' fr hp) :
    AW P N M c Kn' E G' R' fr hp := by
  rw [AW_iff] at h ⊢
  intro w0 ρ a w h1 h2 h3 h4 h5
  refine wp_mono (h w0 ρ a w h1 h2 h3 h4 h5) ?_
  rintro e a' w' ⟨fr', hp', ρ', g, k⟩
  refine ⟨fr', hp', ρ', ?_, k⟩
  cases e with
  | normal => exact hK _ _ g
  | exit id => exact g
  | goto l => exact hG _ _ _ g
  | ret => exact hR _ _ g
  | panic _ => exact g.elim
  | outgrown => exact g.elim
/-- at a jump the state may be told otherwise -/
theorem AW.postG {c : Code} {Kn E R} {G : Nat → Fr → Hp → Prop} {fr : Fr} {hp : Hp} (h : AW P N M c Kn E (fun l fr hp => Turned M (G l) fr hp) R fr hp) : AW P N M c Kn E G R fr hp := by
  rw [AW_iff] at h ⊢
  intro w0 ρ a w h1 h2 h3 h4 h5
  refine wp_mono (h w0 _ a w h1 h2 h3 h4 h5) ?_
  rintro e a' w' ⟨fr', hp', ρ', g, k1, k2, k3, k4, k5, k6⟩
  cases e with
  | goto l =>
    simp only [Goes] at g
    unfold Turned at g
    obtain ⟨σ, fr'', hp'', hσ, hM, hh, hf, hK⟩ := g
    exact ⟨fr'', hp'', _, hK, HSat_unren k1 hh, FSat_unren k2 hf, k3, k4, hM, fun b hb => by rw [hσ b hb, k6 b hb]⟩
  | _ => exact ⟨fr', hp', ρ', g, k1, k2, k3, k4, k5, k6⟩
theorem AW.skipSeq {x : Code} {Kn E G R fr hp} (h : AW P N M x Kn E G R fr hp) : AW P N M (.seq .skip x) Kn E G R fr hp := by
  rw [AW_iff] at h ⊢
  intro w0 ρ a w h1 h2 h3 h4 h5
  exact wp_seq (wp_skip (h w0 ρ a w h1 h2 h3 h4 h5))
/-- a scope whose label is run into, and led back to: the rounds first -/
theorem AW.scopeBack {c x : Code} (l : Nat) {Kn E G R fr hp} (hl : findLabel c l = some (.seq .skip x)) (I : Nat → Fr → Hp → Prop)
    (round : ∀ n fr hp, I n fr hp → AW P N M x Kn E (fun l' fr' hp' => match Nat.beq l' l with | true => ∃ m, m < n ∧ I m fr' hp' | false => False) R fr hp)
    (h : (∀ n fr hp, I n fr hp → AW P N M x Kn E (fun l' fr hp => match Nat.beq l' l with | true => ∃ n, I n fr hp | false => False) R fr hp) →
      AW P N M c Kn E (fun l' fr hp => match Nat.beq l' l with | true => ∃ n, I n fr hp | false => False) R fr hp) : AW P N M (.scope c) Kn E G R fr hp := by
  refine AW.scopeLoop l hl I (h fun n fr hp hI => (round n fr hp hI).conseq (fun _ _ => id) (fun l' fr hp g => ?_) (fun _ _ => id)) fun n fr hp hI => (round n fr hp hI).skipSeq
  split at g
  · rename_i hb
    obtain ⟨m, _, g⟩ := g
    first | exact ⟨m, g⟩ | (simp only [hb]; exact ⟨m, g⟩)
  · exact g.elim

/-- a list that is nothing yet: no block stands behind it -/
def AObj.none0 : AObj → Prop
  | .ints _ xs => xs = []
  | .row els => els = []
  | _ => False
theorem none0_dead {o : AObj} (h : o.none0) (esz : Nat) : ¬ o.lv ⟨0, 0, 0, esz⟩ = true := by
  cases o with
  | ints k xs => simp only [AObj.none0] at h; subst h; simp [AObj.lv]
  | row els => simp only [AObj.none0] at h; subst h; simp [AObj.lv]
  | _ => exact h.elim
theorem HSat.none0 {w0 : Base} {w : World} {ρ : Nat → Loc} {hp : Hp} (h : HSat w0 ρ hp w) (esz : Nat) {o : AObj} (ho : o.none0) :
    HSat w0 (upd ρ hp.length ⟨0, 0, 0, esz⟩) (hp ++ [⟨esz, false, none, o⟩]) w :=
  h.add ⟨esz, false, none, o⟩ ⟨0, 0, 0, esz⟩ rfl rfl rfl (fun g => absurd g (none0_dead ho esz)) (fun g => absurd g (none0_dead ho esz)) (obj_dead (none0_dead ho esz))

theorem VR_none0 {ρ : Nat → Loc} {n b : Nat} {v : Value} (hb : b < n) (h : VR ρ n (.con (.slice none 0 0)) v) : VR ρ n (.sl b 0 0 none) v := by
  simp only [VR] at h ⊢
  obtain ⟨rfl, _⟩ := h
  exact ⟨hb, none, 0, rfl, Nat.le_refl _, (fun q hq => by cases hq), .inl rfl⟩

/-- slots that hold nil, told as slices of an empty block -/
def nilSlots (b : Nat) (ts : List Nat) : Fr → Fr
  | [] => []
  | (u, v) :: r => (u, match v, ts.contains u with | .con (.slice none 0 0), true => .sl b 0 0 none | v, _ => v) :: nilSlots b ts r
theorem nilSlots_find {b : Nat} {ts : List Nat} : ∀ {fr : Fr} {t : Nat} {v : AV}, Fr.find (nilSlots b ts fr) t = some v → Fr.find fr t = some v ∨ (Fr.find fr t = some (.con (.slice none 0 0)) ∧ v = .sl b 0 0 none)
  | [], t, v, h => by simp [nilSlots, Fr.find] at h
  | (u, x) :: r, t, v, h => by
    simp only [nilSlots, Fr.find] at h ⊢
    split at h
    · split at h
      · cases h; exact .inr ⟨rfl, rfl⟩
      · cases h; exact .inl rfl
    · exact nilSlots_find h

theorem AW.nils {c : Code} {Kn E G R} {fr : Fr} {hp : Hp} (ts : List Nat) (esz : Nat) (o : AObj) (fr' : Fr) (hp' : Hp) (ho : o.none0) (hf : nilSlots hp.length ts fr = fr') (hh : hp ++ [⟨esz, false, none, o⟩] = hp')
    (h : AW P N M c Kn E G R fr' hp') : AW P N M c Kn E G R fr hp := by
  subst hf hh
  rw [AW_iff] at h ⊢
  intro w0 ρ a w h1 h2 h3 h4 h5
  have h6 := h1.none0 esz ho
  refine wp_mono (h w0 _ a w h6 ?_ h3 h4 (by simp; omega)) fun e a w hq => hq.mono (fun b hb => upd_lt (by omega)) (fun _ _ => id)
  intro t v hv
  have hmono : ∀ v, VR ρ hp.length v (a.tmps.getD t undef) → VR (upd ρ hp.length ⟨0, 0, 0, esz⟩) (hp ++ [(⟨esz, false, none, o⟩ : Ent)]).length v (a.tmps.getD t undef) := fun v hv => VR_mono (by simp) (fun b hb => upd_lt hb) v _ hv
  rcases nilSlots_find hv with g | ⟨g, rfl⟩
  · exact hmono _ (h2 t v g)
  · exact VR_none0 (by simp) (hmono _ (h2 t _ g))

/-- the same of a cell of a variable -/
def nilSeg (b : Nat) : Nat → List AV → List AV
  | _, [] => []
  | 0, v :: r => (match v with | .con (.slice none 0 0) => .sl b 0 0 none | v => v) :: r
  | i + 1, v :: r => v :: nilSeg b i r
theorem nilSeg_asz (b : Nat) : ∀ (i : Nat) (vs : List AV), asz (nilSeg b i vs) = asz vs
  | _, [] => by cases ‹Nat› <;> rfl
  | 0, v :: r => by
    simp only [nilSeg, asz]
    congr 1
    split <;> rfl
  | i + 1, v :: r => by simp only [nilSeg, asz, nilSeg_asz b i r]
theorem nilSeg_at {ρ : Nat → Loc} {n b : Nat} (hb : b < n) {f : Nat → Option Value} : ∀ (i : Nat) (vs : List AV) (off : Nat), CAt ρ n f vs off → CAt ρ n f (nilSeg b i vs) off
  | i, [], off, h => by cases i <;> exact h
  | 0, v :: r, off, h => by
    simp only [nilSeg]
    split
    · simp only [CAt] at h ⊢
      obtain ⟨⟨c, h1, h2, h3⟩, h4⟩ := h
      exact ⟨⟨c, h1, h2, VR_none0 hb h3⟩, h4⟩
    · exact h
  | i + 1, v :: r, off, h => by
    cases v with
    | ints k m xs =>
      simp only [nilSeg, CAt] at h ⊢
      exact ⟨h.1, nilSeg_at hb i r _ h.2⟩
    | _ =>
      simp only [nilSeg, CAt] at h ⊢
      exact ⟨h.1, nilSeg_at hb i r _ h.2⟩
def nilVar (b : Nat) (i : Nat) : AObj → AObj
  | .var vs => .var (nilSeg b i vs)
  | o => o
theorem HSat.withNil {w0 : Base} {w : World} {ρ : Nat → Loc} {hp : Hp} (h : HSat w0 ρ hp w) {y : Nat} (i : Nat) {b : Nat} {e : Ent} (hb : b < hp.length) (he : hp[y]? = some e) : HSat w0 ρ (hp.set y ⟨e.esz, e.ro, e.par, nilVar b i e.o⟩) w := by
  have hlv : ∀ l, (nilVar b i e.o).lv l = e.o.lv l := by intro l; cases e.o <;> rfl
  have key : ∀ (j : Nat) (x : Ent), (hp.set y ⟨e.esz, e.ro, e.par, nilVar b i e.o⟩)[j]? = some x → ∃ z : Ent, hp[j]? = some z ∧ x.esz = z.esz ∧ x.ro = z.ro ∧ x.par = z.par ∧ (∀ l, x.o.lv l = z.o.lv l) ∧ (x.o = z.o ∨ x.o = nilVar b i z.o) := by
    intro j x hx
    rcases set_get hx with ⟨g1, g2⟩ | ⟨g1, g2⟩
    · subst g1 g2; exact ⟨e, he, rfl, rfl, rfl, hlv, .inr rfl⟩
    · exact ⟨x, g2, rfl, rfl, rfl, fun _ => rfl, .inl rfl⟩
  refine ⟨h.size, h.old, h.tape, h.os, h.out, ?_, ?_, ?_, ?_, ?_, ?_⟩
  · intro j x hx
    obtain ⟨z, k1, k2, k3, k4, k5, k6⟩ := key j x hx
    rw [k2]; exact h.esz j z k1
  · intro j x hx
    obtain ⟨z, k1, k2, k3, k4, k5, k6⟩ := key j x hx
    have ho := h.obj j z k1
    rw [List.length_set, k3]
    rcases k6 with k6 | k6
    · rw [k6]; exact ho
    · rw [k6]
      cases hz : z.o with
      | var vs =>
        rw [hz] at ho
        obtain ⟨cells, ty, fz, q1, q2, q3, q4, q5, q6⟩ := ho
        exact ⟨cells, ty, fz, q1, q2, q3, q4, by rw [nilSeg_asz]; exact q5, nilSeg_at hb i vs 0 q6⟩
      | _ => rw [hz] at ho; exact ho
  · intro j x hx hr hl
    obtain ⟨z, k1, k2, k3, k4, k5, k6⟩ := key j x hx
    exact h.own j z k1 (k3 ▸ hr) (k5 _ ▸ hl)
  · intro j x p hx hp hl
    obtain ⟨z, k1, k2, k3, k4, k5, k6⟩ := key j x hx
    obtain ⟨q1, q2, e', q3, q4, q5⟩ := h.views j z p k1 (k4 ▸ hp) (k5 _ ▸ hl)
    refine ⟨k3 ▸ q1, q2, ?_⟩
    by_cases hpy : p = y
    · subst hpy
      rw [he] at q3; cases q3
      exact ⟨⟨e.esz, e.ro, e.par, nilVar b i e.o⟩, List.getElem?_set_self (lt_of_ix he), q4, by simp only; rw [hlv]; exact q5⟩
    · exact ⟨e', by rw [List.getElem?_set_ne (fun g => hpy g.symm)]; exact q3, q4, q5⟩
  · intro j x hx hr hp hl
    obtain ⟨z, k1, k2, k3, k4, k5, k6⟩ := key j x hx
    exact h.given j z k1 (k3 ▸ hr) (k4 ▸ hp) (k5 _ ▸ hl)
  · intro j j' x x' hx hx' hne hr hr' hl hl'
    obtain ⟨z, k1, k2, k3, k4, k5, k6⟩ := key j x hx
    obtain ⟨z', k1', k2', k3', k4', k5', k6'⟩ := key j' x' hx'
    exact h.apart j j' z z' k1 k1' hne (k3 ▸ hr) (k3' ▸ hr') (k5 _ ▸ hl) (k5' _ ▸ hl')
theorem AW.nilCell {c : Code} {Kn E G R} {fr : Fr} {hp : Hp} (y i esz : Nat) (o : AObj) (hp' : Hp) (e : Ent) (ho : o.none0) (he : hp[y]? = some e) (hh : hp.set y ⟨e.esz, e.ro, e.par, nilVar hp.length i e.o⟩ ++ [⟨esz, false, none, o⟩] = hp')
    (h : AW P N M c Kn E G R fr hp') : AW P N M c Kn E G R fr hp := by
  subst hh
  rw [AW_iff] at h ⊢
  intro w0 ρ a w h1 h2 h3 h4 h5
  have h6 := (h1.none0 esz ho).withNil (y := y) i (b := hp.length) (e := e) (by simp) (by rw [List.getElem?_append_left (lt_of_ix he)]; exact he)
  rw [List.set_append_left _ _ (lt_of_ix he)] at h6
  refine wp_mono (h w0 _ a w h6 ?_ h3 h4 (by simp; omega)) fun e a w hq => hq.mono (fun b hb => upd_lt (by omega)) (fun _ _ => id)
  intro t v hv
  exact VR_mono (by simp) (fun b hb => upd_lt hb) v _ (h2 t v hv)
end
end Go.Aw
end

section
/-
  AwCr: rules about the room of a slice, and about the rest of a row. Own work.
-/
set_option linter.unusedVariables false
set_option linter.unusedSimpArgs false
namespace Go.Aw
open Go
section
variable {P : Program} {N M : Nat}

theorem HSat.swap {w0 : Base} {w : World} {ρ : Nat → Loc} {hp : Hp} (h : HSat w0 ρ hp w) {y : Nat} {e : Ent} (he : hp[y]? = some e) (o' : AObj) (hlv : o'.lv (ρ y) = e.o.lv (ρ y))
    (hobj : ObjOk ρ hp.length w (ρ y) e.ro e.o → ObjOk ρ hp.length w (ρ y) e.ro o') : HSat w0 ρ (hp.set y ⟨e.esz, e.ro, e.par, o'⟩) w := by
  have key : ∀ (j : Nat) (x : Ent), (hp.set y ⟨e.esz, e.ro, e.par, o'⟩)[j]? = some x → ∃ z : Ent, hp[j]? = some z ∧ x.esz = z.esz ∧ x.ro = z.ro ∧ x.par = z.par ∧ (x.o.lv (ρ j) = z.o.lv (ρ j)) ∧ (ObjOk ρ hp.length w (ρ j) z.ro z.o → ObjOk ρ hp.length w (ρ j) z.ro x.o) := by
    intro j x hx
    rcases set_get hx with ⟨g1, g2⟩ | ⟨g1, g2⟩
    · subst g1 g2; exact ⟨e, he, rfl, rfl, rfl, hlv, hobj⟩
    · exact ⟨x, g2, rfl, rfl, rfl, rfl, id⟩
  refine ⟨h.size, h.old, h.tape, h.os, h.out, ?_, ?_, ?_, ?_, ?_, ?_⟩
  · intro j x hx
    obtain ⟨z, k1, k2, k3, k4, k5, k6⟩ := key j x hx
    rw [k2]; exact h.esz j z k1
  · intro j x hx
    obtain ⟨z, k1, k2, k3, k4, k5, k6⟩ := key j x hx
    rw [List.length_set, k3]
    exact k6 (h.obj j z k1)
  · intro j x hx hr hl
    obtain ⟨z, k1, k2, k3, k4, k5, k6⟩ := key j x hx
    exact h.own j z k1 (k3 ▸ hr) (k5 ▸ hl)
  · intro j x p hx hp hl
    obtain ⟨z, k1, k2, k3, k4, k5, k6⟩ := key j x hx
    obtain ⟨q1, q2, e', q3, q4, q5⟩ := h.views j z p k1 (k4 ▸ hp) (k5 ▸ hl)
    refine ⟨k3 ▸ q1, q2, ?_⟩
    by_cases hpy : p = y
    · subst hpy
      rw [he] at q3; cases q3
      exact ⟨⟨e.esz, e.ro, e.par, o'⟩, List.getElem?_set_self (lt_of_ix he), q4, by simp only; rw [hlv]; exact q5⟩
    · exact ⟨e', by rw [List.getElem?_set_ne (fun g => hpy g.symm)]; exact q3, q4, q5⟩
  · intro j x hx hr hp hl
    obtain ⟨z, k1, k2, k3, k4, k5, k6⟩ := key j x hx
    exact h.given j z k1 (k3 ▸ hr) (k4 ▸ hp) (k5 ▸ hl)
  · intro j j' x x' hx hx' hne hr hr' hl hl'
    obtain ⟨z, k1, k2, k3, k4, k5, k6⟩ := key j x hx
    obtain ⟨z', k1', k2', k3', k4', k5', k6'⟩ := key j' x' hx'
    exact h.apart j j' z z' k1 k1' hne (k3 ▸ hr) (k3' ▸ hr') (k5 ▸ hl) (k5' ▸ hl')

/-- the first so many of a row -/
theorem AW.shorten {c : Code} {Kn E G R} {fr : Fr} {hp : Hp} (y n : Nat) (esz : Nat) (ro : Bool) (par : Option Nat) (els : List (List AV)) (hp' : Hp) (h0 : 0 < esz) (he : hp[y]? = some ⟨esz, ro, par, .row els⟩)
    (hh : hp.set y ⟨esz, ro, par, .row (els.take n)⟩ = hp') (h : AW P N M c Kn E G R fr hp') : AW P N M c Kn E G R fr hp := by
  subst hh
  rw [AW_iff] at h ⊢
  intro w0 ρ a w h1 h2 h3 h4 h5
  have hobj := h1.obj y _ he
  have hesz := h1.esz y _ he
  have hlv : (AObj.row (els.take n)).lv (ρ y) = (AObj.row els).lv (ρ y) := by
    rcases els with _ | ⟨x, r⟩
    · simp
    · obtain ⟨cells, ty, fz, q1, q2, q3, q4, q5⟩ := hobj (by simp [AObj.lv])
      have : (ρ y).base < (ρ y).tot := by
        rw [q2]
        simp only [List.length_cons, Nat.add_mul, Nat.one_mul] at q4
        have : (ρ y).esz = esz := hesz
        omega
      simp only [AObj.lv, List.isEmpty_cons, Bool.false_and, Bool.not_false]
      rw [show decide ((ρ y).tot ≤ (ρ y).base) = false from decide_eq_false (by omega), Bool.and_false]
      rfl
  have h6 := h1.swap he (.row (els.take n)) hlv (by
    intro g hl
    rw [hlv] at hl
    obtain ⟨cells, ty, fz, q1, q2, q3, q4, q5⟩ := g hl
    refine ⟨cells, ty, fz, q1, q2, q3, ?_, ?_⟩
    · have : (els.take n).length * (ρ y).esz ≤ els.length * (ρ y).esz := Nat.mul_le_mul_right _ (by rw [List.length_take]; omega)
      omega
    · intro i x hx
      rw [List.getElem?_take] at hx
      split at hx
      · exact q5 i x hx
      · cases hx)
  exact h w0 ρ a w h6 (by rw [List.length_set]; exact h2) h3 h4 (by rw [List.length_set]; exact h5) |> fun q => wp_mono q fun e a w hq => hq

/-- a slice's room, told -/
def capSeg (C : Nat) : Nat → List AV → List AV
  | _, [] => []
  | 0, v :: r => (match v with | .sl b off len none => .sl b off len (some C) | v => v) :: r
  | i + 1, v :: r => v :: capSeg C i r
theorem capSeg_asz (C : Nat) : ∀ (i : Nat) (vs : List AV), asz (capSeg C i vs) = asz vs
  | _, [] => by cases ‹Nat› <;> rfl
  | 0, v :: r => by
    simp only [capSeg, asz]
    congr 1
    split <;> rfl
  | i + 1, v :: r => by simp only [capSeg, asz, capSeg_asz C i r]
theorem capSeg_at {ρ : Nat → Loc} {n : Nat} {f : Nat → Option Value} {b off' len : Nat} : ∀ (i : Nat) (vs : List AV) (off : Nat), vs[i]? = some (.sl b off' len none) → CAt ρ n f vs off → ∃ C, len ≤ C ∧ CAt ρ n f (capSeg C i vs) off
  | i, [], off, h, _ => by simp at h
  | 0, v :: r, off, hv, h => by
    simp only [List.getElem?_cons_zero, Option.some.injEq] at hv
    subst hv
    simp only [CAt] at h
    obtain ⟨⟨c, h1, h2, h3⟩, h4⟩ := h
    simp only [VR] at h3
    obtain ⟨g1, ad, C, g2, g3, g4, g5⟩ := h3
    refine ⟨C, g3, ?_⟩
    simp only [capSeg, CAt]
    refine ⟨⟨c, h1, h2, ?_⟩, h4⟩
    simp only [VR]
    exact ⟨g1, ad, C, g2, g3, fun q hq => by cases hq; rfl, g5⟩
  | i + 1, v :: r, off, hv, h => by
    simp only [List.getElem?_cons_succ] at hv
    cases v with
    | ints k m xs =>
      simp only [CAt] at h
      obtain ⟨C, g1, g2⟩ := capSeg_at i r _ hv h.2
      exact ⟨C, g1, by simp only [capSeg, CAt]; exact ⟨h.1, g2⟩⟩
    | _ =>
      simp only [CAt] at h
      obtain ⟨C, g1, g2⟩ := capSeg_at i r _ hv h.2
      exact ⟨C, g1, by simp only [capSeg, CAt]; exact ⟨h.1, g2⟩⟩
theorem AW.capOn {c : Code} {Kn E G R} {fr : Fr} {hp : Hp} (y i : Nat) (b off len : Nat) (esz : Nat) (ro : Bool) (par : Option Nat) (vs : List AV) (hp' : Nat → Hp) (he : hp[y]? = some ⟨esz, ro, par, .var vs⟩)
    (hi : vs[i]? = some (.sl b off len none)) (hh : ∀ C, hp.set y ⟨esz, ro, par, .var (capSeg C i vs)⟩ = hp' C) (h : ∀ C, len ≤ C → AW P N M c Kn E G R fr (hp' C)) : AW P N M c Kn E G R fr hp := by
  rw [AW_iff]
  intro w0 ρ a w h1 h2 h3 h4 h5
  obtain ⟨cells, ty, fz, q1, q2, q3, q4, q5, q6⟩ := h1.obj y _ he
  obtain ⟨C, hC, hat⟩ := capSeg_at i vs 0 hi q6
  have h6 := h1.swap he (.var (capSeg C i vs)) rfl (fun _ => ⟨cells, ty, fz, q1, q2, q3, q4, by rw [capSeg_asz]; exact q5, hat⟩)
  have h' := h C hC
  rw [← hh, AW_iff] at h'
  exact wp_mono (h' w0 ρ a w h6 (by rw [List.length_set]; exact h2) h3 h4 (by rw [List.length_set]; exact h5)) fun e a w hq => hq
/-- a slice's room, let go -/
def offSeg : Nat → List AV → List AV
  | _, [] => []
  | 0, v :: r => (match v with | .sl b off len _ => .sl b off len none | v => v) :: r
  | i + 1, v :: r => v :: offSeg i r
theorem offSeg_asz : ∀ (i : Nat) (vs : List AV), asz (offSeg i vs) = asz vs
  | _, [] => by cases ‹Nat› <;> rfl
  | 0, v :: r => by
    simp only [offSeg, asz]
    congr 1
    split <;> rfl
  | i + 1, v :: r => by simp only [offSeg, asz, offSeg_asz i r]
theorem offSeg_at {ρ : Nat → Loc} {n : Nat} {f : Nat → Option Value} : ∀ (i : Nat) (vs : List AV) (off : Nat), CAt ρ n f vs off → CAt ρ n f (offSeg i vs) off
  | i, [], off, h => by cases i <;> exact h
  | 0, v :: r, off, h => by
    cases v with
    | sl b off' len cap =>
      simp only [CAt] at h
      obtain ⟨⟨c, h1, h2, h3⟩, h4⟩ := h
      simp only [VR] at h3
      obtain ⟨g1, ad, C, g2, g3, g4, g5⟩ := h3
      simp only [offSeg, CAt]
      refine ⟨⟨c, h1, h2, ?_⟩, h4⟩
      simp only [VR]
      exact ⟨g1, ad, C, g2, g3, fun q hq => (by cases hq), g5⟩
    | _ => exact h
  | i + 1, v :: r, off, h => by
    cases v with
    | ints k m xs =>
      simp only [CAt] at h
      simp only [offSeg, CAt]
      exact ⟨h.1, offSeg_at i r _ h.2⟩
    | _ =>
      simp only [CAt] at h
      simp only [offSeg, CAt]
      exact ⟨h.1, offSeg_at i r _ h.2⟩
theorem AW.capOff {c : Code} {Kn E G R} {fr : Fr} {hp : Hp} (y i : Nat) (esz : Nat) (ro : Bool) (par : Option Nat) (vs : List AV) (hp' : Hp) (he : hp[y]? = some ⟨esz, ro, par, .var vs⟩)
    (hh : hp.set y ⟨esz, ro, par, .var (offSeg i vs)⟩ = hp') (h : AW P N M c Kn E G R fr hp') : AW P N M c Kn E G R fr hp := by
  subst hh
  rw [AW_iff] at h ⊢
  intro w0 ρ a w h1 h2 h3 h4 h5
  obtain ⟨cells, ty, fz, q1, q2, q3, q4, q5, q6⟩ := h1.obj y _ he
  have h6 := h1.swap he (.var (offSeg i vs)) rfl (fun _ => ⟨cells, ty, fz, q1, q2, q3, q4, by rw [offSeg_asz]; exact q5, offSeg_at i vs 0 q6⟩)
  exact wp_mono (h w0 ρ a w h6 (by rw [List.length_set]; exact h2) h3 h4 (by rw [List.length_set]; exact h5)) fun e a w hq => hq
/-- a fork, its ways told by rules -/
theorem AW.condK {c : Operand} {x y : Code} {Kn E G R} {fr : Fr} {hp : Hp} (h : avK fr c fun g => (match g with
    | .bool g => (match g with | true => AW P N M x Kn E G R fr hp | false => AW P N M y Kn E G R fr hp)
    | _ => False)) : AW P N M (.cond c x y) Kn E G R fr hp := by
  rw [AW_iff]
  intro w0 ρ a w h1 h2 h3 h4 h5
  obtain ⟨g, k1, k2⟩ := avK_sound h2 h
  split at k1
  case h_2 => exact k1.elim
  rename_i g
  simp only [VR] at k2
  refine wp_cond k2 ?_
  split at k1
  · rw [AW_iff] at k1
    exact k1 w0 ρ a w h1 h2 h3 h4 h5
  · rw [AW_iff] at k1
    exact k1 w0 ρ a w h1 h2 h3 h4 h5
end
end Go.Aw
end
