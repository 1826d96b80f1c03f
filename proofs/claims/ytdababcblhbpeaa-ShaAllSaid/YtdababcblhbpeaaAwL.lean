/-
  AwL: block numbers may be told otherwise; what is no more asked for may be forgotten; a call sees but a part of the memory. Own work of this session.
-/
import Derived.Test.YtdababcblhbpeaaAwK
set_option linter.unusedVariables false
set_option linter.unusedSimpArgs false
namespace Go.Aw

mutual
def AV.ren (σ : Nat → Nat) : AV → AV
  | .ptr b i off j => .ptr (σ b) i off j
  | .sl b off len cap => .sl (σ b) off len cap
  | .mp b => .mp (σ b)
  | .agg vs => .agg (AV.rens σ vs)
  | .tup vs => .tup (AV.rens σ vs)
  | .fn f caps => .fn f (AV.rens σ caps)
  | .int k n => .int k n
  | .bool b => .bool b
  | .str l => .str l
  | .con v => .con v
  | .ints k n xs => .ints k n xs
  | .top => .top
def AV.rens (σ : Nat → Nat) : List AV → List AV
  | [] => []
  | v :: vs => AV.ren σ v :: AV.rens σ vs
def AV.inn (n : Nat) : AV → Prop
  | .ptr b i off j => b < n
  | .sl b off len cap => b < n
  | .mp b => b < n
  | .agg vs => AV.inns n vs
  | .tup vs => AV.inns n vs
  | .fn f caps => AV.inns n caps
  | .int k m => True
  | .bool b => True
  | .str l => True
  | .con v => True
  | .ints k m xs => True
  | .top => True
def AV.inns (n : Nat) : List AV → Prop
  | [] => True
  | v :: vs => AV.inn n v ∧ AV.inns n vs
end

theorem rens_eq (σ : Nat → Nat) : ∀ vs : List AV, AV.rens σ vs = vs.map (AV.ren σ)
  | [] => by simp [AV.rens]
  | v :: vs => by simp [AV.rens, rens_eq σ vs]

theorem AV.ren_sz (σ : Nat → Nat) (v : AV) : (v.ren σ).sz = v.sz := by cases v <;> simp [AV.ren, AV.sz]
theorem asz_rens (σ : Nat → Nat) : ∀ vs : List AV, asz (AV.rens σ vs) = asz vs
  | [] => by simp [AV.rens]
  | v :: vs => by simp [AV.rens, asz, asz_rens σ vs, AV.ren_sz]

section
variable {ρ1 ρ2 : Nat → Loc} {n1 n2 : Nat} {σ : Nat → Nat}

/-! from a value told with other numbers to the value -/
mutual
theorem VR_unren (h : ∀ b, b < n2 → ρ2 b = ρ1 (σ b)) : ∀ (v : AV) (c : Value), v.inn n2 → VR ρ1 n1 (v.ren σ) c → VR ρ2 n2 v c
  | .int k x, c, hb, hv => by simpa [AV.ren, VR] using hv
  | .bool b, c, hb, hv => by simpa [AV.ren, VR] using hv
  | .str l, c, hb, hv => by simpa [AV.ren, VR] using hv
  | .con l, c, hb, hv => by simpa [AV.ren, VR] using hv
  | .ptr b i off j, c, hb, hv => by
    simp only [AV.inn] at hb
    simp only [AV.ren, VR] at hv ⊢
    rw [h b hb]; exact ⟨hb, hv.2⟩
  | .sl b off len cap, c, hb, hv => by
    simp only [AV.inn] at hb
    simp only [AV.ren, VR] at hv ⊢
    rw [h b hb]; exact ⟨hb, hv.2⟩
  | .mp b, c, hb, hv => by
    simp only [AV.inn] at hb
    simp only [AV.ren, VR] at hv ⊢
    rw [h b hb]; exact ⟨hb, hv.2⟩
  | .ints k m xs, c, hb, hv => by simp [AV.ren, VR] at hv
  | .agg vs, c, hb, hv => by
    simp only [AV.inn] at hb
    simp only [AV.ren, VR] at hv ⊢
    obtain ⟨cs, h1, h2, h3⟩ := hv
    exact ⟨cs, h1, CAt_unren h vs _ _ hb h2, by rw [h3, asz_rens]⟩
  | .tup vs, c, hb, hv => by
    simp only [AV.inn] at hb
    simp only [AV.ren, VR] at hv ⊢
    obtain ⟨cs, h1, h2⟩ := hv
    exact ⟨cs, h1, VRs_unren h vs _ hb h2⟩
  | .fn f vs, c, hb, hv => by
    simp only [AV.inn] at hb
    simp only [AV.ren, VR] at hv ⊢
    obtain ⟨cs, h1, h2⟩ := hv
    exact ⟨cs, h1, VRs_unren h vs _ hb h2⟩
  | .top, c, hb, hv => by simp [VR]
theorem VRs_unren (h : ∀ b, b < n2 → ρ2 b = ρ1 (σ b)) : ∀ (vs : List AV) (cs : List Value), AV.inns n2 vs → VRs ρ1 n1 (AV.rens σ vs) cs → VRs ρ2 n2 vs cs
  | [], cs, hb, hv => by simpa [AV.rens, VRs] using hv
  | v :: vs, cs, hb, hv => by
    simp only [AV.inns] at hb
    simp only [AV.rens, VRs] at hv ⊢
    obtain ⟨c, cr, h1, h2, h3⟩ := hv
    exact ⟨c, cr, h1, VR_unren h v c hb.1 h2, VRs_unren h vs cr hb.2 h3⟩
theorem CAt_unren (h : ∀ b, b < n2 → ρ2 b = ρ1 (σ b)) : ∀ (vs : List AV) (f : Nat → Option Value) (off : Nat), AV.inns n2 vs → CAt ρ1 n1 f (AV.rens σ vs) off → CAt ρ2 n2 f vs off
  | [], f, off, hb, hv => by simp only [CAt]
  | v :: vs, f, off, hb, hv => by
    simp only [AV.inns] at hb
    simp only [AV.rens] at hv
    by_cases hi : ∃ k m xs, v = .ints k m xs
    · obtain ⟨k, m, xs, rfl⟩ := hi
      simp only [AV.ren, CAt] at hv ⊢
      exact ⟨hv.1, CAt_unren h vs f _ hb.2 hv.2⟩
    · have hn : ∀ k m xs, v ≠ .ints k m xs := fun k m xs e => hi ⟨k, m, xs, e⟩
      have hn' : ∀ k m xs, v.ren σ ≠ .ints k m xs := fun k m xs e => by
        cases v <;> simp [AV.ren] at e
        exact hi ⟨_, _, _, rfl⟩
      rw [CAt_cons hn'] at hv
      rw [CAt_cons hn]
      obtain ⟨⟨c, h1, h2, h3⟩, h4⟩ := hv
      exact ⟨⟨c, h1, h2, VR_unren h v c hb.1 h3⟩, CAt_unren h vs f _ hb.2 h4⟩
end

/-! from a value to the value told with other numbers -/
mutual
theorem VR_ren (h : ∀ b, b < n1 → σ b < n2 ∧ ρ2 (σ b) = ρ1 b) : ∀ (v : AV) (c : Value), VR ρ1 n1 v c → VR ρ2 n2 (v.ren σ) c
  | .int k x, c, hv => by simpa [AV.ren, VR] using hv
  | .bool b, c, hv => by simpa [AV.ren, VR] using hv
  | .str l, c, hv => by simpa [AV.ren, VR] using hv
  | .con l, c, hv => by simpa [AV.ren, VR] using hv
  | .ptr b i off j, c, hv => by
    simp only [AV.ren, VR] at hv ⊢
    rw [(h b hv.1).2]; exact ⟨(h b hv.1).1, hv.2⟩
  | .sl b off len cap, c, hv => by
    simp only [AV.ren, VR] at hv ⊢
    rw [(h b hv.1).2]; exact ⟨(h b hv.1).1, hv.2⟩
  | .mp b, c, hv => by
    simp only [AV.ren, VR] at hv ⊢
    rw [(h b hv.1).2]; exact ⟨(h b hv.1).1, hv.2⟩
  | .ints k m xs, c, hv => by simp [VR] at hv
  | .agg vs, c, hv => by
    simp only [AV.ren, VR] at hv ⊢
    obtain ⟨cs, h1, h2, h3⟩ := hv
    exact ⟨cs, h1, CAt_ren h vs _ _ h2, by rw [h3, asz_rens]⟩
  | .tup vs, c, hv => by
    simp only [AV.ren, VR] at hv ⊢
    obtain ⟨cs, h1, h2⟩ := hv
    exact ⟨cs, h1, VRs_ren h vs _ h2⟩
  | .fn f vs, c, hv => by
    simp only [AV.ren, VR] at hv ⊢
    obtain ⟨cs, h1, h2⟩ := hv
    exact ⟨cs, h1, VRs_ren h vs _ h2⟩
  | .top, c, hv => by simp [VR, AV.ren]
theorem VRs_ren (h : ∀ b, b < n1 → σ b < n2 ∧ ρ2 (σ b) = ρ1 b) : ∀ (vs : List AV) (cs : List Value), VRs ρ1 n1 vs cs → VRs ρ2 n2 (AV.rens σ vs) cs
  | [], cs, hv => by simpa [AV.rens, VRs] using hv
  | v :: vs, cs, hv => by
    simp only [AV.rens, VRs] at hv ⊢
    obtain ⟨c, cr, h1, h2, h3⟩ := hv
    exact ⟨c, cr, h1, VR_ren h v c h2, VRs_ren h vs cr h3⟩
theorem CAt_ren (h : ∀ b, b < n1 → σ b < n2 ∧ ρ2 (σ b) = ρ1 b) : ∀ (vs : List AV) (f : Nat → Option Value) (off : Nat), CAt ρ1 n1 f vs off → CAt ρ2 n2 f (AV.rens σ vs) off
  | [], f, off, hv => by simp only [CAt, AV.rens]
  | v :: vs, f, off, hv => by
    simp only [AV.rens]
    by_cases hi : ∃ k m xs, v = .ints k m xs
    · obtain ⟨k, m, xs, rfl⟩ := hi
      simp only [AV.ren, CAt] at hv ⊢
      exact ⟨hv.1, CAt_ren h vs f _ hv.2⟩
    · have hn : ∀ k m xs, v ≠ .ints k m xs := fun k m xs e => hi ⟨k, m, xs, e⟩
      have hn' : ∀ k m xs, v.ren σ ≠ .ints k m xs := fun k m xs e => by
        cases v <;> simp [AV.ren] at e
        exact hi ⟨_, _, _, rfl⟩
      rw [CAt_cons hn] at hv
      rw [CAt_cons hn']
      obtain ⟨⟨c, h1, h2, h3⟩, h4⟩ := hv
      exact ⟨⟨c, h1, h2, VR_ren h v c h3⟩, CAt_ren h vs f _ h4⟩
end

def AObj.ren (σ : Nat → Nat) : AObj → AObj
  | .gone => .gone
  | .ints k xs => .ints k xs
  | .var vs => .var (AV.rens σ vs)
  | .row els => .row (els.map (AV.rens σ))
def AObj.inn (n : Nat) : AObj → Prop
  | .gone => True
  | .ints _ _ => True
  | .var vs => AV.inns n vs
  | .row els => ∀ x ∈ els, AV.inns n x

theorem AObj.ren_live (σ : Nat → Nat) (o : AObj) : (o.ren σ).live = o.live := by cases o <;> rfl
theorem AObj.ren_lv (σ : Nat → Nat) (o : AObj) (l : Loc) : (o.ren σ).lv l = o.lv l := by cases o <;> simp [AObj.ren, AObj.lv]

theorem ObjOk_unren {w : World} {l : Loc} {ro ro' : Bool} (h : ∀ b, b < n2 → ρ2 b = ρ1 (σ b)) (hro : ro' = false → ro = false) {o : AObj} (hb : o.inn n2) (ho : ObjOk ρ1 n1 w l ro (o.ren σ)) : ObjOk ρ2 n2 w l ro' o := by
  cases o with
  | gone => trivial
  | ints k xs =>
    intro hlv
    obtain ⟨h1, c, t, f, h2, h3, h4, h5⟩ := ho hlv
    exact ⟨h1, c, t, f, h2, h3, fun g => h4 (hro g), h5⟩
  | var vs =>
    obtain ⟨c, t, f, h2, h3, h4, h5, h6, h7⟩ := ho
    exact ⟨c, t, f, h2, h3, fun g => h4 (hro g), h5, by rw [← h6, asz_rens], CAt_unren h vs _ _ hb h7⟩
  | row els =>
    intro hlv
    obtain ⟨c, t, f, h2, h3, h4, h5, h6⟩ := ho (by simpa [AObj.lv] using hlv)
    refine ⟨c, t, f, h2, h3, fun g => h4 (hro g), by simpa using h5, fun i x hx => ?_⟩
    have := h6 i (AV.rens σ x) (by simp [hx])
    exact ⟨by rw [← this.1, asz_rens], CAt_unren h x _ _ (hb x (List.mem_of_getElem? hx)) this.2⟩

theorem ObjOk_ren {w : World} {l : Loc} {ro : Bool} (h : ∀ b, b < n1 → σ b < n2 ∧ ρ2 (σ b) = ρ1 b) {o : AObj} (ho : ObjOk ρ1 n1 w l ro o) : ObjOk ρ2 n2 w l ro (o.ren σ) := by
  cases o with
  | gone => trivial
  | ints k xs =>
    intro hlv
    obtain ⟨h1, c, t, f, h2, h3, h4, h5⟩ := ho hlv
    exact ⟨h1, c, t, f, h2, h3, h4, h5⟩
  | var vs =>
    obtain ⟨c, t, f, h2, h3, h4, h5, h6, h7⟩ := ho
    exact ⟨c, t, f, h2, h3, h4, h5, by rw [← h6, asz_rens], CAt_ren h vs _ _ h7⟩
  | row els =>
    intro hlv
    obtain ⟨c, t, f, h2, h3, h4, h5, h6⟩ := ho (by simpa [AObj.lv] using hlv)
    refine ⟨c, t, f, h2, h3, h4, by simpa using h5, fun i x hx => ?_⟩
    simp only [List.getElem?_map, Option.map_eq_some_iff] at hx
    obtain ⟨y, hy, rfl⟩ := hx
    have := h6 i y hy
    exact ⟨by rw [← this.1, asz_rens], CAt_ren h y _ _ this.2⟩
end

/-- an entry told with other numbers -/
def Ent.ren (σ : Nat → Nat) (e : Ent) : Ent := ⟨e.esz, e.ro, e.par.map σ, e.o.ren σ⟩

/-- the memory 'hp' seen as 'hp'': number 'i' of the new one is 'σ i' of the elder one -/
structure Sees (σ : Nat → Nat) (hp hp' : Hp) : Prop where
  get : ∀ (i : Nat) (e' : Ent), hp'[i]? = some e' → ∃ e : Ent, hp[σ i]? = some e ∧ e.esz = e'.esz ∧ (e'.o.live = true → e = e'.ren σ ∧ e'.o.inn hp'.length)
  par : ∀ (i : Nat) (e' : Ent) (p : Nat), hp'[i]? = some e' → e'.par = some p → e'.o.live = true → ∃ e'' : Ent, hp'[p]? = some e'' ∧ e''.ro = false ∧ e''.o.live = true
  inj : ∀ (i j : Nat) (e' e'' : Ent), hp'[i]? = some e' → hp'[j]? = some e'' → e'.o.live = true → e''.o.live = true → i ≠ j → σ i ≠ σ j

theorem HSat_unren {w0 : Base} {ρ : Nat → Loc} {σ : Nat → Nat} {hp hp' : Hp} {w : World} (hs : HSat w0 ρ hp w) (h : Sees σ hp hp') : HSat w0 (fun i => ρ (σ i)) hp' w where
  size := hs.size
  old := hs.old
  tape := hs.tape
  os := hs.os
  out := hs.out
  esz b e hb := by
    obtain ⟨e1, h1, h2, _⟩ := h.get b e hb
    rw [hs.esz _ _ h1, h2]
  obj b e hb := by
    obtain ⟨e1, h1, h2, h3⟩ := h.get b e hb
    cases hl : e.o.live with
    | false => exact obj_dead (fun g => by rw [lv_live g] at hl; cases hl)
    | true =>
      obtain ⟨h4, h5⟩ := h3 hl
      have := hs.obj _ _ h1
      subst h4
      exact ObjOk_unren (σ := σ) (ρ1 := ρ) (fun _ _ => rfl) id h5 this
  own b e hb hr hl := by
    obtain ⟨e1, h1, h2, h3⟩ := h.get b e hb
    obtain ⟨h4, h5⟩ := h3 (lv_live hl)
    subst h4
    exact hs.own _ _ h1 hr (by simpa only [Ent.ren, AObj.ren_lv] using hl)
  views b e p hb hp hl := by
    obtain ⟨e1, h1, h2, h3⟩ := h.get b e hb
    obtain ⟨h4, h5⟩ := h3 (lv_live hl)
    subst h4
    obtain ⟨g1, g2, e', g3, g4, g5⟩ := hs.views _ _ (σ p) h1 (by simp [Ent.ren, hp]) (by simpa only [Ent.ren, AObj.ren_lv] using hl)
    obtain ⟨e'', q1, q2, q3⟩ := h.par b e p hb hp (lv_live hl)
    obtain ⟨x, r1, r2, r3⟩ := h.get p e'' q1
    obtain ⟨r4, _⟩ := r3 q3
    rw [g3] at r1; cases r1
    subst r4
    exact ⟨g1, g2, e'', q1, q2, by simpa only [Ent.ren, AObj.ren_lv] using g5⟩
  given b e hb hr hp hl := by
    obtain ⟨e1, h1, h2, h3⟩ := h.get b e hb
    obtain ⟨h4, h5⟩ := h3 (lv_live hl)
    subst h4
    exact hs.given _ _ h1 hr (by simp [Ent.ren, hp]) (by simpa only [Ent.ren, AObj.ren_lv] using hl)
  apart b b' e e' hb hb' hne hr hr' hl hl' := by
    obtain ⟨e1, h1, h2, h3⟩ := h.get b e hb
    obtain ⟨h4, h5⟩ := h3 (lv_live hl)
    obtain ⟨e1', h1', h2', h3'⟩ := h.get b' e' hb'
    obtain ⟨h4', h5'⟩ := h3' (lv_live hl')
    subst h4 h4'
    exact hs.apart _ _ _ _ h1 h1' (h.inj b b' e e' hb hb' (lv_live hl) (lv_live hl') hne) hr hr' (by simpa only [Ent.ren, AObj.ren_lv] using hl) (by simpa only [Ent.ren, AObj.ren_lv] using hl')

/-- slots, seen with other numbers: some may be forgotten -/
def FSees (σ : Nat → Nat) (n : Nat) (fr fr' : Fr) : Prop := ∀ t v', Fr.find fr' t = some v' → v' = .top ∨ ∃ v, Fr.find fr t = some v ∧ v = v'.ren σ ∧ v'.inn n

theorem FSat_unren {ρ : Nat → Loc} {σ : Nat → Nat} {n n' : Nat} {fr fr' : Fr} {tmps : Array Value} (hf : FSat ρ n fr tmps) (h : FSees σ n' fr fr') : FSat (fun i => ρ (σ i)) n' fr' tmps := by
  intro t v' hv
  rcases h t v' hv with rfl | ⟨v, h1, rfl, h2⟩
  · simp only [VR]
  · exact VR_unren (σ := σ) (ρ1 := ρ) (fun _ _ => rfl) v' _ h2 (hf t _ h1)

section
variable {P : Program} {N M : Nat}

/-- ahead of a piece of code the state may be told otherwise -/
theorem AW.turn {c : Code} {Kn E G R} {fr fr' : Fr} {hp hp' : Hp} (σ : Nat → Nat) (hσ : ∀ i, i < M → σ i = i) (hM : M ≤ hp'.length) (hh : Sees σ hp hp') (hf : FSees σ hp'.length fr fr')
    (h : AW P N M c Kn E G R fr' hp') : AW P N M c Kn E G R fr hp := by
  rw [AW_iff] at h ⊢
  intro w0 ρ a w h1 h2 h3 h4 h5
  refine wp_mono (h w0 _ a w (HSat_unren h1 hh) (FSat_unren h2 hf) h3 h4 hM) fun e a w hq => hq.mono (fun b hb => by rw [hσ b hb]) (fun _ _ => id)

/-- behind a piece of code the state may be told otherwise -/
@[irreducible] def Turned (M : Nat) (K : Fr → Hp → Prop) (fr : Fr) (hp : Hp) : Prop :=
  ∃ σ fr' hp', (∀ i, i < M → σ i = i) ∧ M ≤ hp'.length ∧ Sees σ hp hp' ∧ FSees σ hp'.length fr fr' ∧ K fr' hp'

theorem AW.post {c : Code} {Kn E G R} {fr : Fr} {hp : Hp} (h : AW P N M c (Turned M Kn) E G R fr hp) : AW P N M c Kn E G R fr hp := by
  rw [AW_iff] at h ⊢
  intro w0 ρ a w h1 h2 h3 h4 h5
  refine wp_mono (h w0 _ a w h1 h2 h3 h4 h5) ?_
  rintro e a' w' ⟨fr', hp', ρ', g, k1, k2, k3, k4, k5, k6⟩
  cases e with
  | normal =>
    simp only [Goes] at g
    unfold Turned at g
    obtain ⟨σ, fr'', hp'', q1, q2, q3, q4, q5⟩ := g
    exact ⟨fr'', hp'', _, q5, HSat_unren k1 q3, FSat_unren k2 q4, k3, k4, q2, fun b hb => by rw [q1 b hb]; exact k6 b hb⟩
  | _ => exact ⟨fr', hp', ρ', g, k1, k2, k3, k4, k5, k6⟩

theorem AC.mono {f : FuncId} {args : List AV} {hp : Hp} {K K' : AV → Hp → Prop} (h : AC P f args hp K) (hK : ∀ r hp', K r hp' → K' r hp') : AC P f args hp K' := by
  unfold AC at h ⊢
  refine ⟨h.1, fun w0 ρ w vs h1 h2 => (h.2 w0 ρ w vs h1 h2).mono ?_⟩
  rintro e w' ⟨r, v, hp', ρ', k1, k2, k3⟩
  exact ⟨r, v, hp', ρ', k1, hK _ _ k2, k3⟩

/-- what a call left may be told otherwise -/
theorem AC.post {f : FuncId} {args : List AV} {hp : Hp} {K K' : AV → Hp → Prop} (h : AC P f args hp K)
    (hK : ∀ r hp', K r hp' → ∃ σ r' hp'', (∀ i, i < hp.length → σ i = i) ∧ hp.length ≤ hp''.length ∧ Sees σ hp' hp'' ∧ r = r'.ren σ ∧ r'.inn hp''.length ∧ K' r' hp'') : AC P f args hp K' := by
  unfold AC at h ⊢
  refine ⟨h.1, fun w0 ρ w vs h1 h2 => (h.2 w0 ρ w vs h1 h2).mono ?_⟩
  rintro e w' ⟨r, v, hp', ρ', k1, k2, k3, k4, k5, k6⟩
  obtain ⟨σ, r', hp'', q1, q2, q3, rfl, q4, q5⟩ := hK _ _ k2
  exact ⟨r', v, hp'', _, k1, q5, VR_unren (σ := σ) (ρ1 := ρ') (fun _ _ => rfl) r' _ q4 k3, HSat_unren k4 q3, q2, fun b hb => by rw [q1 b hb]; exact k6 b hb⟩
end
end Go.Aw
