/-
  AwV: states told otherwise, in a form that can be computed; sums and words. Own work of this session.
-/
import Derived.Test.YtdababcblhbpeaaAwN
import Derived.Test.YtdababcblhbpeaaAwT
import Derived.IntWalk
import Derived.IntWalk
set_option linter.unusedVariables false
set_option linter.unusedSimpArgs false
namespace Go.Aw

def seesT (σ : Nat → Nat) (n : Nat) (hp : Hp) : Hp → List Nat → Prop
  | [], [] => True
  | e' :: r, s :: sr => (entK hp s fun e => match e'.o with
      | .gone => e.esz = e'.esz
      | o => e = e'.ren σ ∧ o.inn n ∧ e'.par = none) ∧ seesT σ n hp r sr
  | _, _ => False

theorem seesT_get {σ : Nat → Nat} {n : Nat} {hp : Hp} : ∀ {hp' : Hp} {sl : List Nat}, seesT σ n hp hp' sl →
    ∀ (i : Nat) (e' : Ent), hp'[i]? = some e' → ∃ (s : Nat) (e : Ent), sl[i]? = some s ∧ hp[s]? = some e ∧ e.esz = e'.esz ∧ (e'.o.live = true → e = e'.ren σ ∧ e'.o.inn n ∧ e'.par = none)
  | [], _, h => fun i e' h => by simp at h
  | _ :: _, [], h => h.elim
  | x :: r, s :: sr, h => by
    simp only [seesT] at h
    obtain ⟨h1, h2⟩ := h
    intro i e' hi
    cases i with
    | succ i =>
      simp at hi
      obtain ⟨s', e, g⟩ := seesT_get h2 i e' hi
      exact ⟨s', e, by simpa using g⟩
    | zero =>
      simp at hi; subst hi
      obtain ⟨e, g1, g2⟩ := entK_sound h1
      refine ⟨s, e, by simp, g1, ?_⟩
      split at g2
      · rename_i ho
        exact ⟨g2, fun hl => by rw [ho] at hl; cases hl⟩
      · obtain ⟨g3, g4, g5⟩ := g2
        exact ⟨by rw [g3]; rfl, fun _ => ⟨g3, g4, g5⟩⟩

theorem noDup_inj : ∀ {sl : List Nat}, noDup sl = true → ∀ (i j s : Nat), sl[i]? = some s → sl[j]? = some s → i = j
  | [], _ => fun i j s h => by simp at h
  | x :: sl, h => by
    intro i j s h1 h2
    simp only [noDup] at h
    split at h
    case h_2 => cases h
    rename_i hn
    have hn := notIn_iff hn
    cases i with
    | zero =>
      cases j with
      | zero => rfl
      | succ j =>
        simp at h1 h2; subst h1
        exact absurd (List.mem_of_getElem? h2) hn
    | succ i =>
      cases j with
      | zero =>
        simp at h1 h2; subst h2
        exact absurd (List.mem_of_getElem? h1) hn
      | succ j =>
        simp at h1 h2
        rw [noDup_inj h i j s h1 h2]

theorem Sees.of {hp hp' : Hp} {n0 : Nat} (sl : List Nat) (h : seesT (sig sl n0) hp'.length hp hp' sl) (hn : noDup sl = true) : Sees (sig sl n0) hp hp' := by
  refine ⟨fun i e' hi => ?_, fun i e' p hi hp hl => ?_, fun i j e e' hi hj hl hl' hne => ?_⟩
  · obtain ⟨s, e, g1, g2, g3, g4⟩ := seesT_get h i e' hi
    refine ⟨e, by rw [sig_lt sl _ i s g1]; exact g2, g3, fun hl => ⟨(g4 hl).1, (g4 hl).2.1⟩⟩
  · obtain ⟨s, e, g1, g2, g3, g4⟩ := seesT_get h i e' hi
    rw [(g4 hl).2.2] at hp; cases hp
  · obtain ⟨s, x, g1, _⟩ := seesT_get h i e hi
    obtain ⟨s', x', g1', _⟩ := seesT_get h j e' hj
    rw [sig_lt sl _ i s g1, sig_lt sl _ j s' g1']
    intro g; subst g
    exact hne (noDup_inj hn i j s g1 g1')

def fseesT (σ : Nat → Nat) (n : Nat) (fr : Fr) : Fr → Prop
  | [] => True
  | (t, v') :: r => getK t fr (fun v => v = v'.ren σ ∧ v'.inn n) ∧ fseesT σ n fr r

theorem FSees.of {σ : Nat → Nat} {n : Nat} {fr : Fr} : ∀ {fr' : Fr}, fseesT σ n fr fr' → FSees σ n fr fr'
  | [], _ => fun t v h => by simp [Fr.find] at h
  | (u, x) :: r, h => by
    intro t v hv
    simp only [fseesT] at h
    simp only [Fr.find] at hv
    split at hv
    · rename_i hb
      have := Nat.eq_of_beq_eq_true hb
      subst this; cases hv
      have h1 := h.1
      rw [getK_eq] at h1
      cases hf : Fr.find fr u with
      | none =>
        rw [hf] at h1
        simp only [Option.getD_none] at h1
        left
        obtain ⟨h1, _⟩ := h1
        cases x <;> simp [AV.ren] at h1; rfl
      | some y =>
        rw [hf] at h1
        simp only [Option.getD_some] at h1
        exact .inr ⟨y, rfl, h1⟩
    · exact FSees.of h.2 t v hv

def fixB : Nat → Nat → List Nat → Bool
  | _, 0, _ => true
  | i, m + 1, s :: sl => match Nat.beq s i with | true => fixB (i + 1) m sl | false => false
  | _, _ + 1, [] => false

theorem fixB_sound : ∀ {m i : Nat} {sl : List Nat} (n0 : Nat), fixB i m sl = true → ∀ j, j < m → sig sl n0 j = i + j
  | 0, i, sl, n0, _ => fun j h => by omega
  | m + 1, i, [], n0, h => by simp [fixB] at h
  | m + 1, i, s :: sl, n0, h => by
    simp only [fixB] at h
    split at h
    case h_2 => cases h
    rename_i hb
    have := Nat.eq_of_beq_eq_true hb
    intro j hj
    cases j with
    | zero => simpa [sig] using this
    | succ j => simp only [sig]; rw [fixB_sound n0 h j (by omega)]; omega

section
variable {P : Program} {N M : Nat}

/-- ahead of a piece of code: the state told otherwise; 'sl' says which block each new number was -/
theorem AW.turnL {c : Code} {Kn E G R} {fr : Fr} {hp : Hp} (sl : List Nat) (fr' : Fr) (hp' : Hp) (hfix : fixB 0 M sl = true) (hM : Nat.ble M hp'.length = true) (hn : noDup sl = true)
    (hh : seesT (sig sl 0) hp'.length hp hp' sl) (hf : fseesT (sig sl 0) hp'.length fr fr') (h : AW P N M c Kn E G R fr' hp') : AW P N M c Kn E G R fr hp :=
  AW.turn (sig sl 0) (fun i hi => by rw [fixB_sound 0 hfix i hi]; omega) (by simpa using hM) (Sees.of sl hh hn) (FSees.of hf) h

theorem Turned.of {K : Fr → Hp → Prop} {fr : Fr} {hp : Hp} (sl : List Nat) (fr' : Fr) (hp' : Hp) (hfix : fixB 0 M sl = true) (hM : Nat.ble M hp'.length = true) (hn : noDup sl = true)
    (hh : seesT (sig sl 0) hp'.length hp hp' sl) (hf : fseesT (sig sl 0) hp'.length fr fr') (h : K fr' hp') : Turned M K fr hp := by
  unfold Turned
  exact ⟨sig sl 0, fr', hp', fun i hi => by rw [fixB_sound 0 hfix i hi]; omega, by simpa using hM, Sees.of sl hh hn, FSees.of hf, h⟩

/-- the head of a row is walked by the evaluator -/
theorem AW.pre {T : Tab} {x y : Code} {Kn E G R fr hp} (hT : TOk P T) (keep : Nat → Bool) (h : ev (AC P) (AW P N M) T N keep x (fun fr hp => AW P N M y Kn E G R fr hp) E G R fr hp) : AW P N M (.seq x y) Kn E G R fr hp :=
  AW.seq (ev_sound hT h)
/-- what holds between two pieces -/
theorem AW.cut {x y : Code} {Kn E G R fr hp} (I : Fr → Hp → Prop) (h : AW P N M x I E G R fr hp) (h' : ∀ fr hp, I fr hp → AW P N M y Kn E G R fr hp) : AW P N M (.seq x y) Kn E G R fr hp :=
  AW.seq (AW.mono h h')

/-- what holds between two pieces, the state told otherwise -/
theorem AW.cutT {x y : Code} {Kn E G R fr hp} (I : Fr → Hp → Prop) (h : AW P N M x (Turned M I) E G R fr hp) (h' : ∀ fr hp, I fr hp → AW P N M y Kn E G R fr hp) : AW P N M (.seq x y) Kn E G R fr hp :=
  AW.seq (AW.post (AW.mono h fun fr hp g => by
    unfold Turned at g ⊢
    obtain ⟨σ, fr', hp', a, b, c, d, e⟩ := g
    exact ⟨σ, fr', hp', a, b, c, d, h' _ _ e⟩))

/-- what a call left, told otherwise -/
@[irreducible] def Left (n : Nat) (K : AV → Hp → Prop) (r : AV) (hp' : Hp) : Prop :=
  ∃ σ r' hp'', (∀ i, i < n → σ i = i) ∧ n ≤ hp''.length ∧ Sees σ hp' hp'' ∧ r = r'.ren σ ∧ r'.inn hp''.length ∧ K r' hp''
theorem Left.of {n : Nat} {K : AV → Hp → Prop} {r : AV} {hp : Hp} (sl : List Nat) (r' : AV) (hp' : Hp) (hfix : fixB 0 n sl = true) (hM : Nat.ble n hp'.length = true) (hn : noDup sl = true)
    (hh : seesT (sig sl 0) hp'.length hp hp' sl) (hr : r = r'.ren (sig sl 0)) (hin : r'.inn hp'.length) (h : K r' hp') : Left n K r hp := by
  unfold Left
  exact ⟨sig sl 0, r', hp', fun i hi => by rw [fixB_sound 0 hfix i hi]; omega, by simpa using hM, Sees.of sl hh hn, hr, hin, h⟩
theorem AC.left {f : FuncId} {args : List AV} {hp : Hp} {K : AV → Hp → Prop} (h : AC P f args hp (Left hp.length K)) : AC P f args hp K := AC.post h fun r hp' h => by unfold Left at h; exact h
end

/-- rows that speak of the first k blocks alone -/
@[irreducible] def RowFix (k : Nat) (els : List (List AV)) : Prop := ∀ x ∈ els, AV.inns k x
mutual
theorem AV.inn_mono {n n' : Nat} (h : n ≤ n') : ∀ v : AV, v.inn n → v.inn n'
  | .int _ _, _ | .bool _, _ | .str _, _ | .con _, _ | .ints _ _ _, _ | .top, _ => by simp [AV.inn]
  | .ptr b _ _ _, hv | .sl b _ _ _, hv | .mp b, hv => by simp only [AV.inn] at hv ⊢; omega
  | .agg vs, hv | .tup vs, hv | .fn _ vs, hv => by simp only [AV.inn] at hv ⊢; exact AV.inns_mono h vs hv
theorem AV.inns_mono {n n' : Nat} (h : n ≤ n') : ∀ vs : List AV, AV.inns n vs → AV.inns n' vs
  | [], _ => by simp [AV.inns]
  | v :: vs, hv => by simp only [AV.inns] at hv ⊢; exact ⟨AV.inn_mono h v hv.1, AV.inns_mono h vs hv.2⟩
end
mutual
theorem AV.ren_fix {σ : Nat → Nat} {k : Nat} (h : ∀ i, i < k → σ i = i) : ∀ v : AV, v.inn k → v.ren σ = v
  | .int _ _, _ | .bool _, _ | .str _, _ | .con _, _ | .ints _ _ _, _ | .top, _ => by simp [AV.ren]
  | .ptr b _ _ _, hv | .sl b _ _ _, hv | .mp b, hv => by simp only [AV.inn] at hv; simp only [AV.ren]; rw [h b hv]
  | .agg vs, hv | .tup vs, hv | .fn _ vs, hv => by simp only [AV.inn] at hv; simp only [AV.ren]; rw [AV.rens_fix h vs hv]
theorem AV.rens_fix {σ : Nat → Nat} {k : Nat} (h : ∀ i, i < k → σ i = i) : ∀ vs : List AV, AV.inns k vs → AV.rens σ vs = vs
  | [], _ => by simp [AV.rens]
  | v :: vs, hv => by simp only [AV.inns] at hv; simp only [AV.rens]; rw [AV.ren_fix h v hv.1, AV.rens_fix h vs hv.2]
end
theorem RowFix.mono {k k' : Nat} {els : List (List AV)} (h : RowFix k els) (hk : k ≤ k') : RowFix k' els := by
  unfold RowFix at h ⊢; exact fun x hx => AV.inns_mono hk x (h x hx)
theorem RowFix.app {k : Nat} {a b : List (List AV)} (h : RowFix k a) (h' : RowFix k b) : RowFix k (a ++ b) := by
  unfold RowFix at h h' ⊢
  intro x hx
  rcases List.mem_append.1 hx with g | g
  · exact h x g
  · exact h' x g
theorem RowFix.nil {k : Nat} : RowFix k [] := by unfold RowFix; intro x hx; cases hx
theorem RowFix.one {k : Nat} {x : List AV} (h : AV.inns k x) : RowFix k [x] := by
  unfold RowFix; intro y hy; simp at hy; subst hy; exact h
theorem RowFix.renO {k n0 : Nat} {els : List (List AV)} {sl : List Nat} (h : RowFix k els) (hf : fixB 0 k sl = true) : (AObj.row els) = AObj.ren (sig sl n0) (.row els) := by
  unfold RowFix at h
  simp only [AObj.ren]
  congr 1
  conv => lhs; rw [← List.map_id els]
  apply List.map_congr_left
  intro x hx
  rw [AV.rens_fix (fun i hi => by rw [fixB_sound n0 hf i hi]; omega) x (h x hx)]; rfl
theorem RowFix.ren {k n0 z : Nat} {ro : Bool} {els : List (List AV)} {sl : List Nat} (h : RowFix k els) (hf : fixB 0 k sl = true) : (⟨z, ro, none, .row els⟩ : Ent) = Ent.ren (sig sl n0) ⟨z, ro, none, .row els⟩ := by
  unfold Ent.ren
  simp only [Option.map_none]
  congr 1
  exact h.renO hf
theorem RowFix.inn {k n : Nat} {els : List (List AV)} (h : RowFix k els) (hk : Nat.ble k n = true) : AObj.inn n (.row els) := by
  have hk := Nat.le_of_ble_eq_true hk
  unfold RowFix at h
  exact fun x hx => AV.inns_mono hk x (h x hx)

end Go.Aw
