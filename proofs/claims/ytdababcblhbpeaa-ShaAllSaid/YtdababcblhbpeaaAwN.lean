/-
  AwN: a call sees but a part of the memory, and leaves the rest as it was. Own work of this session.
-/
import Derived.Test.YtdababcblhbpeaaAwM
set_option linter.unusedVariables false
set_option linter.unusedSimpArgs false
namespace Go.Aw

/-- the caller's number of a callee's block; 'n': where the new ones begin -/
def sig : List Nat → Nat → Nat → Nat
  | [], n, i => n + i
  | s :: _, _, 0 => s
  | _ :: sl, n, i + 1 => sig sl n i

theorem sig_lt : ∀ (sl : List Nat) (n i s : Nat), sl[i]? = some s → sig sl n i = s
  | [], n, i, s, h => by simp at h
  | x :: sl, n, 0, s, h => by simpa [sig] using h
  | x :: sl, n, i + 1, s, h => by simp at h; simpa [sig] using sig_lt sl n i s h
theorem sig_ge : ∀ (sl : List Nat) (n i : Nat), sl.length ≤ i → sig sl n i = n + (i - sl.length)
  | [], n, i, h => by simp [sig]
  | x :: sl, n, 0, h => by simp at h
  | x :: sl, n, i + 1, h => by
    simp at h
    simp only [sig, List.length_cons]
    rw [sig_ge sl n i h]; omega

def seek : List Nat → Hp → Nat → Option Ent
  | s :: sl, e :: r, j => match Nat.beq s j with | true => some e | false => seek sl r j
  | _, _, _ => none

theorem seek_some : ∀ {sl : List Nat} {hp : Hp} {j : Nat} {e : Ent}, seek sl hp j = some e → ∃ i : Nat, sl[i]? = some j ∧ hp[i]? = some e
  | s :: sl, x :: r, j, e, h => by
    simp only [seek] at h
    split at h
    · rename_i hb
      have := Nat.eq_of_beq_eq_true hb
      subst this; cases h
      exact ⟨0, by simp, by simp⟩
    · obtain ⟨i, h1, h2⟩ := seek_some h
      exact ⟨i + 1, by simpa using h1, by simpa using h2⟩
  | [], _, j, e, h => by simp [seek] at h
  | _ :: _, [], j, e, h => by simp [seek] at h

theorem seek_find : ∀ {sl : List Nat} {hp : Hp} {i j : Nat}, sl[i]? = some j → i < hp.length → (∀ i', i' < i → sl[i']? ≠ some j) → seek sl hp j = hp[i]?
  | [], hp, i, j, h, _, _ => by simp at h
  | s :: sl, [], i, j, h, hl, _ => by simp at hl
  | s :: sl, x :: r, i, j, h, hl, hn => by
    simp only [seek]
    cases i with
    | zero =>
      simp at h; subst h
      simp
    | succ i =>
      have h0 := hn 0 (by omega)
      simp at h0
      have : Nat.beq s j = false := by
        cases hb : Nat.beq s j with
        | false => rfl
        | true => exact absurd (Nat.eq_of_beq_eq_true hb) h0
      simp only [this]
      simp at h hl
      rw [seek_find h hl (fun i' hi' => by have := hn (i' + 1) (by omega); simpa using this)]
      simp

def cleanO (σ : Nat → Nat) (e : Ent) : AObj :=
  match e.ro with
  | false => (match e.par with
    | none => e.o.ren σ
    | some _ => .gone)
  | true => .gone

def mergeE (sl : List Nat) (σ : Nat → Nat) (hp0 hp0' : Hp) (j : Nat) (e : Ent) : Ent :=
  match seek sl hp0 j with
  | some e0 => (match e0.ro with
    | true => e
    | false => (match seek sl hp0' j with
      | some e1 => ⟨e.esz, false, none, cleanO σ e1⟩
      | none => e))
  | none => (match e.par with
    | some p => (match seek sl hp0 p with
      | some e0 => (match e0.ro with
        | false => ⟨e.esz, e.ro, e.par, .gone⟩
        | true => e)
      | none => e)
    | none => e)
def mergeOld (sl : List Nat) (σ : Nat → Nat) (hp0 hp0' : Hp) : Nat → Hp → Hp
  | _, [] => []
  | j, e :: r => mergeE sl σ hp0 hp0' j e :: mergeOld sl σ hp0 hp0' (j + 1) r
def mergeNew (σ : Nat → Nat) : Nat → Hp → Hp
  | _, [] => []
  | k + 1, _ :: r => mergeNew σ k r
  | 0, e :: r => ⟨e.esz, false, none, cleanO σ e⟩ :: mergeNew σ 0 r
/-- the caller's memory behind the call -/
def merge (sl : List Nat) (hp hp0 hp0' : Hp) : Hp :=
  mergeOld sl (sig sl hp.length) hp0 hp0' 0 hp ++ mergeNew (sig sl hp.length) hp0.length hp0'

theorem mergeOld_get {sl : List Nat} {σ : Nat → Nat} {hp0 hp0' : Hp} : ∀ (hp : Hp) (k j : Nat), (mergeOld sl σ hp0 hp0' k hp)[j]? = (hp[j]?).map (mergeE sl σ hp0 hp0' (k + j))
  | [], k, j => by simp [mergeOld]
  | e :: r, k, 0 => by simp [mergeOld]
  | e :: r, k, j + 1 => by
    simp only [mergeOld, List.getElem?_cons_succ]
    rw [mergeOld_get r (k + 1) j]
    rw [show k + 1 + j = k + (j + 1) by omega]
theorem mergeOld_length {sl : List Nat} {σ : Nat → Nat} {hp0 hp0' : Hp} : ∀ (hp : Hp) (k : Nat), (mergeOld sl σ hp0 hp0' k hp).length = hp.length
  | [], k => rfl
  | e :: r, k => by simp [mergeOld, mergeOld_length r]
theorem mergeNew_eq {σ : Nat → Nat} : ∀ (k : Nat) (hp : Hp), mergeNew σ k hp = (hp.drop k).map fun e => ⟨e.esz, false, none, cleanO σ e⟩
  | 0, [] => by simp [mergeNew]
  | k + 1, [] => by simp [mergeNew]
  | k + 1, _ :: r => by simp [mergeNew, mergeNew_eq k r]
  | 0, e :: r => by simp only [mergeNew, mergeNew_eq 0 r]; simp

def ownsOf : List Nat → Hp → List Nat
  | s :: sl, e :: r => (match e.ro with | false => s :: ownsOf sl r | true => ownsOf sl r)
  | _, _ => []
def notIn (s : Nat) : List Nat → Bool
  | [] => true
  | x :: r => match Nat.beq x s with | true => false | false => notIn s r
def noDup : List Nat → Bool
  | [] => true
  | x :: r => match notIn x r with | true => noDup r | false => false

theorem notIn_iff {s : Nat} : ∀ {l : List Nat}, notIn s l = true → s ∉ l
  | [], _ => by simp
  | x :: r, h => by
    simp only [notIn] at h
    split at h
    · cases h
    · rename_i hb
      have := notIn_iff h
      simp only [List.mem_cons, not_or]
      refine ⟨fun e => ?_, this⟩
      subst e; simp at hb

/-- does the caller's memory look as the callee's contract asks? -/
def seesC (σ : Nat → Nat) (k : Nat) (owns : List Nat) (hp : Hp) : Hp → List Nat → Prop
  | [], [] => True
  | e0 :: r, s :: sr => (entK hp s fun e => match e0.par with
      | none => (match e0.ro with
        | false => e0.o.live = true ∧ e0.o.inn k ∧ e = ⟨e0.esz, false, none, e0.o.ren σ⟩
        | true => e.esz = e0.esz ∧ notIn s owns = true ∧ (match e.par with | some p => notIn p owns | none => true) = true ∧ (match e0.o with
          | .gone => True
          | o => e.o = o.ren σ ∧ o.inn k))
      | some _ => False) ∧ seesC σ k owns hp r sr
  | _, _ => False

structure Head (σ : Nat → Nat) (k : Nat) (owns : List Nat) (s : Nat) (e e0 : Ent) : Prop where
  par : e0.par = none
  live : e0.ro = false → e0.o.live = true
  inn : e0.o.inn k
  o : e0.o.live = true → e.o = e0.o.ren σ
  esz : e.esz = e0.esz
  own : e0.ro = false → e.ro = false ∧ e.par = none
  giv : e0.ro = true → s ∉ owns ∧ ∀ p, e.par = some p → p ∉ owns

theorem seesC_get {σ : Nat → Nat} {k : Nat} {owns : List Nat} {hp : Hp} : ∀ {hp0 : Hp} {sl : List Nat}, seesC σ k owns hp hp0 sl →
    sl.length = hp0.length ∧ ∀ (i : Nat) (e0 : Ent), hp0[i]? = some e0 → ∃ s e, sl[i]? = some s ∧ hp[s]? = some e ∧ Head σ k owns s e e0
  | [], [], h => ⟨rfl, fun i e0 h => by simp at h⟩
  | [], _ :: _, h => h.elim
  | _ :: _, [], h => h.elim
  | e0 :: r, s :: sr, h => by
    simp only [seesC] at h
    obtain ⟨h1, h2⟩ := h
    obtain ⟨q1, q2⟩ := seesC_get h2
    refine ⟨by simp [q1], fun i x hx => ?_⟩
    cases i with
    | succ i =>
      simp at hx
      obtain ⟨s', e', g1, g2⟩ := q2 i x hx
      exact ⟨s', e', by simpa using g1, g2⟩
    | zero =>
      simp at hx; subst hx
      obtain ⟨e, g1, g2⟩ := entK_sound h1
      refine ⟨s, e, by simp, g1, ?_⟩
      split at g2
      case h_2 => exact g2.elim
      rename_i hpar
      split at g2
      · rename_i hro
        obtain ⟨g3, g4, g5⟩ := g2
        subst g5
        exact { par := hpar, live := fun _ => g3, inn := g4, o := fun _ => rfl, esz := rfl, own := fun _ => ⟨rfl, rfl⟩, giv := fun h => (by rw [hro] at h; cases h) }
      · rename_i hro
        obtain ⟨g7, g8, g9, g6⟩ := g2
        have g6' : e0.o.inn k ∧ (e0.o.live = true → e.o = e0.o.ren σ) := by
          cases ho : e0.o <;> rw [ho] at g6 <;> first | exact ⟨g6.2, fun _ => g6.1⟩ | exact ⟨trivial, fun h => (by cases h)⟩
        refine { par := hpar, live := fun h => (by rw [hro] at h; cases h), inn := g6'.1, o := g6'.2, esz := g7, own := fun h => (by rw [hro] at h; cases h), giv := fun _ => ⟨notIn_iff g8, fun p hp => ?_⟩ }
        rw [hp] at g9
        exact notIn_iff g9

theorem ownsOf_mem : ∀ {sl : List Nat} {hp0 : Hp} {s : Nat}, s ∈ ownsOf sl hp0 ↔ ∃ (i : Nat) (e0 : Ent), sl[i]? = some s ∧ hp0[i]? = some e0 ∧ e0.ro = false
  | [], hp0, s => by simp [ownsOf]
  | _ :: _, [], s => by simp [ownsOf]
  | x :: sl, e :: r, s => by
    have ih := ownsOf_mem (sl := sl) (hp0 := r) (s := s)
    cases hro : e.ro with
    | false =>
      simp only [ownsOf, hro, List.mem_cons, ih]
      constructor
      · rintro (rfl | ⟨i, e0, h1, h2, h3⟩)
        · exact ⟨0, e, by simp, by simp, hro⟩
        · exact ⟨i + 1, e0, by simpa using h1, by simpa using h2, h3⟩
      · rintro ⟨i, e0, h1, h2, h3⟩
        cases i with
        | zero => simp at h1; exact .inl h1.symm
        | succ i => exact .inr ⟨i, e0, by simpa using h1, by simpa using h2, h3⟩
    | true =>
      simp only [ownsOf, hro, ih]
      constructor
      · rintro ⟨i, e0, h1, h2, h3⟩
        exact ⟨i + 1, e0, by simpa using h1, by simpa using h2, h3⟩
      · rintro ⟨i, e0, h1, h2, h3⟩
        cases i with
        | zero => simp at h2; subst h2; rw [hro] at h3; cases h3
        | succ i => exact ⟨i, e0, by simpa using h1, by simpa using h2, h3⟩

theorem owns_inj : ∀ {sl : List Nat} {hp0 : Hp}, noDup (ownsOf sl hp0) = true → ∀ (i j s : Nat) (e e' : Ent), sl[i]? = some s → sl[j]? = some s → hp0[i]? = some e → hp0[j]? = some e' → e.ro = false → e'.ro = false → i = j
  | [], _, _ => fun i j s e e' h => by simp at h
  | _ :: _, [], _ => fun i j s e e' h h' h2 => by simp at h2
  | x :: sl, y :: r, h => by
    intro i j s e e' h1 h2 h3 h4 h5 h6
    have h' : noDup (ownsOf sl r) = true := by
      cases hro : y.ro with
      | true => simpa only [ownsOf, hro] using h
      | false =>
        simp only [ownsOf, hro, noDup] at h
        split at h
        · exact h
        · cases h
    have key : ∀ (i : Nat) (e : Ent), y.ro = false → sl[i]? = some x → r[i]? = some e → e.ro = false → False := by
      intro i e hy g1 g2 g3
      simp only [ownsOf, hy, noDup] at h
      split at h
      · rename_i hn
        exact notIn_iff hn (ownsOf_mem.2 ⟨i, e, g1, g2, g3⟩)
      · cases h
    cases i with
    | zero =>
      cases j with
      | zero => rfl
      | succ j =>
        simp at h1 h3 h2 h4
        subst h1 h3
        exact (key j e' h5 h2 h4 h6).elim
    | succ i =>
      cases j with
      | zero =>
        simp at h1 h3 h2 h4
        subst h2 h4
        exact (key i e h6 h1 h3 h5).elim
      | succ j =>
        simp at h1 h3 h2 h4
        rw [owns_inj h' i j s e e' h1 h2 h3 h4 h5 h6]

section
variable {P : Program}

/-! the same, told by what comes behind -/
def natK : Nat → (Nat → Prop) → Prop
  | 0, K => K 0
  | n + 1, K => natK n fun m => K (m + 1)
theorem natK_eq : ∀ (n : Nat) (K : Nat → Prop), natK n K = K n
  | 0, K => rfl
  | n + 1, K => by simp only [natK]; exact natK_eq n _

mutual
def renK (σ : Nat → Nat) : AV → (AV → Prop) → Prop
  | .ptr b i off j, K => natK (σ b) fun b => K (.ptr b i off j)
  | .sl b off len cap, K => natK (σ b) fun b => K (.sl b off len cap)
  | .mp b, K => natK (σ b) fun b => K (.mp b)
  | .agg vs, K => rensK σ vs fun vs => K (.agg vs)
  | .tup vs, K => rensK σ vs fun vs => K (.tup vs)
  | .fn f caps, K => rensK σ caps fun vs => K (.fn f vs)
  | .int k n, K => K (.int k n)
  | .bool b, K => K (.bool b)
  | .str l, K => K (.str l)
  | .con v, K => K (.con v)
  | .ints k n xs, K => K (.ints k n xs)
  | .top, K => K .top
def rensK (σ : Nat → Nat) : List AV → (List AV → Prop) → Prop
  | [], K => K []
  | v :: vs, K => renK σ v fun v => rensK σ vs fun vs => K (v :: vs)
end
mutual
theorem renK_eq (σ : Nat → Nat) : ∀ (v : AV) (K : AV → Prop), renK σ v K = K (v.ren σ)
  | .ptr b i off j, K => by simp only [renK, AV.ren, natK_eq]
  | .sl b off len cap, K => by simp only [renK, AV.ren, natK_eq]
  | .mp b, K => by simp only [renK, AV.ren, natK_eq]
  | .agg vs, K => by simp only [renK, AV.ren]; exact rensK_eq σ vs _
  | .tup vs, K => by simp only [renK, AV.ren]; exact rensK_eq σ vs _
  | .fn f vs, K => by simp only [renK, AV.ren]; exact rensK_eq σ vs _
  | .int k n, K => by simp only [renK, AV.ren]
  | .bool b, K => by simp only [renK, AV.ren]
  | .str l, K => by simp only [renK, AV.ren]
  | .con v, K => by simp only [renK, AV.ren]
  | .ints k n xs, K => by simp only [renK, AV.ren]
  | .top, K => by simp only [renK, AV.ren]
theorem rensK_eq (σ : Nat → Nat) : ∀ (vs : List AV) (K : List AV → Prop), rensK σ vs K = K (AV.rens σ vs)
  | [], K => by simp only [rensK, AV.rens]
  | v :: vs, K => by
    simp only [rensK, AV.rens]
    rw [renK_eq σ v]
    exact rensK_eq σ vs _
end
def renOK (σ : Nat → Nat) : AObj → (AObj → Prop) → Prop
  | .gone, K => K .gone
  | .ints k xs, K => K (.ints k xs)
  | .var vs, K => rensK σ vs fun vs => K (.var vs)
  | .row els, K => K (.row (els.map (AV.rens σ)))
theorem renOK_eq (σ : Nat → Nat) (o : AObj) (K : AObj → Prop) : renOK σ o K = K (o.ren σ) := by
  cases o <;> simp only [renOK, AObj.ren, rensK_eq]
def cleanK (σ : Nat → Nat) (e : Ent) (K : AObj → Prop) : Prop :=
  match e.ro with
  | false => (match e.par with
    | none => renOK σ e.o K
    | some _ => K .gone)
  | true => K .gone
theorem cleanK_eq (σ : Nat → Nat) (e : Ent) (K : AObj → Prop) : cleanK σ e K = K (cleanO σ e) := by
  unfold cleanK cleanO
  split
  · split
    · exact renOK_eq σ _ K
    · rfl
  · rfl
def mergeEK (sl : List Nat) (σ : Nat → Nat) (hp0 hp0' : Hp) (j : Nat) (e : Ent) (K : Ent → Prop) : Prop :=
  match seek sl hp0 j with
  | some e0 => (match e0.ro with
    | true => K e
    | false => (match seek sl hp0' j with
      | some e1 => (match e with | ⟨z, _, _, _⟩ => cleanK σ e1 fun o => K ⟨z, false, none, o⟩)
      | none => K e))
  | none => (match e.par with
    | some p => (match seek sl hp0 p with
      | some e0 => (match e0.ro with
        | false => (match e with | ⟨z, r, q, _⟩ => K ⟨z, r, q, .gone⟩)
        | true => K e)
      | none => K e)
    | none => K e)
theorem mergeEK_eq (sl : List Nat) (σ : Nat → Nat) (hp0 hp0' : Hp) (j : Nat) (e : Ent) (K : Ent → Prop) : mergeEK sl σ hp0 hp0' j e K = K (mergeE sl σ hp0 hp0' j e) := by
  unfold mergeEK mergeE
  split
  · split
    · rfl
    · split
      · exact cleanK_eq σ _ _
      · rfl
  · split
    · split
      · split
        · rfl
        · rfl
      · rfl
    · rfl
def mergeOldK (sl : List Nat) (σ : Nat → Nat) (hp0 hp0' : Hp) : Nat → Hp → (Hp → Prop) → Prop
  | _, [], K => K []
  | j, e :: r, K => mergeEK sl σ hp0 hp0' j e fun e => mergeOldK sl σ hp0 hp0' (j + 1) r fun r => K (e :: r)
theorem mergeOldK_eq (sl : List Nat) (σ : Nat → Nat) (hp0 hp0' : Hp) : ∀ (hp : Hp) (j : Nat) (K : Hp → Prop), mergeOldK sl σ hp0 hp0' j hp K = K (mergeOld sl σ hp0 hp0' j hp)
  | [], j, K => rfl
  | e :: r, j, K => by
    simp only [mergeOldK, mergeOld, mergeEK_eq]
    exact mergeOldK_eq sl σ hp0 hp0' r (j + 1) _
def mergeNewK (σ : Nat → Nat) : Nat → Hp → (Hp → Prop) → Prop
  | _, [], K => K []
  | k + 1, _ :: r, K => mergeNewK σ k r K
  | 0, e :: r, K => (match e with | ⟨z, ro, q, o⟩ => cleanK σ ⟨z, ro, q, o⟩ fun o => mergeNewK σ 0 r fun r => K (⟨z, false, none, o⟩ :: r))
theorem mergeNewK_eq (σ : Nat → Nat) : ∀ (k : Nat) (hp : Hp) (K : Hp → Prop), mergeNewK σ k hp K = K (mergeNew σ k hp)
  | 0, [], K => rfl
  | k + 1, [], K => rfl
  | k + 1, _ :: r, K => by simp only [mergeNewK, mergeNew]; exact mergeNewK_eq σ k r K
  | 0, e :: r, K => by
    simp only [mergeNewK, mergeNew, cleanK_eq]
    exact mergeNewK_eq σ 0 r _
def appHpK : Hp → Hp → (Hp → Prop) → Prop
  | [], b, K => K b
  | e :: a, b, K => appHpK a b fun r => K (e :: r)
theorem appHpK_eq : ∀ (a b : Hp) (K : Hp → Prop), appHpK a b K = K (a ++ b)
  | [], b, K => rfl
  | e :: a, b, K => by simp only [appHpK]; exact appHpK_eq a b _

/-- what comes behind a call: its value and the memory are computed first -/
def Then (sl : List Nat) (hp hp0 : Hp) (r0 : AV) (hp0' : Hp) (K : AV → Hp → Prop) : Prop :=
  renK (sig sl hp.length) r0 fun r => mergeOldK sl (sig sl hp.length) hp0 hp0' 0 hp fun a => mergeNewK (sig sl hp.length) hp0.length hp0' fun b => appHpK a b fun hp' => K r hp'
theorem Then_eq (sl : List Nat) (hp hp0 : Hp) (r0 : AV) (hp0' : Hp) (K : AV → Hp → Prop) : Then sl hp hp0 r0 hp0' K = K (r0.ren (sig sl hp.length)) (merge sl hp hp0 hp0') := by
  unfold Then merge
  rw [renK_eq, mergeOldK_eq, mergeNewK_eq, appHpK_eq]

theorem AC.frame {f : FuncId} {args0 args : List AV} {hp0 hp : Hp} {K0 K : AV → Hp → Prop} (h : AC P f args0 hp0 K0) (sl : List Nat)
    (hsee : seesC (sig sl hp.length) hp0.length (ownsOf sl hp0) hp hp0 sl) (hnd : noDup (ownsOf sl hp0) = true) (hin : AV.inns hp0.length args0) (hargs : args = AV.rens (sig sl hp.length) args0)
    (hK : ∀ r0 hp0', K0 r0 hp0' → Then sl hp hp0 r0 hp0' K) : AC P f args hp K := by
  unfold AC at h ⊢
  refine ⟨h.1, fun w0 ρ w vs hs hvs => ?_⟩
  obtain ⟨hsl, hget⟩ := seesC_get hsee
  have hσ : ∀ (i s : Nat), sl[i]? = some s → sig sl hp.length i = s := fun i s h => sig_lt sl hp.length i s h
  let own (j : Nat) : Prop := ∃ (i : Nat) (e0 : Ent), hp0[i]? = some e0 ∧ e0.ro = false ∧ e0.o.lv (ρ (sig sl hp.length i)) = true ∧ j = (ρ (sig sl hp.length i)).blk
  let base : Base := ⟨w, fun j => j < w.heap.size ∧ ¬ own j⟩
  -- what lies still over there lies still here
  have hF : ∀ j, w0.F j → base.F j := by
    intro j hj
    refine ⟨hs.size j hj, ?_⟩
    rintro ⟨i, e0, h1, h2, hlv, h3⟩
    obtain ⟨s, e, g1, g2, g3⟩ := hget i e0 h1
    rw [hσ i s g1] at h3 hlv
    have := hs.own s e g2 (g3.own h2).1 (by rw [g3.o (g3.live h2), AObj.ren_lv]; exact hlv)
    exact this.1 (h3 ▸ hj)
  -- a block of the caller that is not the callee's lies still
  have hstill : ∀ (j : Nat) (e : Ent), hp[j]? = some e → e.o.lv (ρ j) = true → j ∉ ownsOf sl hp0 → (∀ p, e.par = some p → p ∉ ownsOf sl hp0) → base.F (ρ j).blk := by
    intro j e hj hl hno hpar
    refine ⟨(hs.obj j e hj).lt hl, ?_⟩
    rintro ⟨i, e0, h1, h2, hlv, h3⟩
    obtain ⟨s, e', g1, g2, g3⟩ := hget i e0 h1
    rw [hσ i s g1] at h3 hlv
    have hso : s ∈ ownsOf sl hp0 := ownsOf_mem.2 ⟨i, e0, g1, h1, h2⟩
    have hl' : e'.o.lv (ρ s) = true := by rw [g3.o (g3.live h2), AObj.ren_lv]; exact hlv
    cases hro : e.ro with
    | false => exact hs.apart j s e e' hj g2 (fun g => hno (g ▸ hso)) hro (g3.own h2).1 hl hl' h3
    | true =>
      cases hp' : e.par with
      | none =>
        have q1 := hs.given j e hj hro hp' hl
        have q2 := hs.own s e' g2 (g3.own h2).1 hl'
        exact q2.1 (h3 ▸ q1)
      | some p =>
        obtain ⟨_, q1, e'', q2, q3, q4⟩ := hs.views j e p hj hp' hl
        rw [q1] at h3
        exact hs.apart p s e'' e' q2 g2 (fun g => hpar p hp' (g ▸ hso)) q3 (g3.own h2).1 q4 hl' h3
  have hs0 : HSat base (fun i => ρ (sig sl hp.length i)) hp0 w := by
    refine ⟨fun i hi => hi.1, fun i hi => rfl, rfl, rfl, rfl, ?_, ?_, ?_, ?_, ?_, ?_⟩
    · intro i e0 h1
      obtain ⟨s, e, g1, g2, g3⟩ := hget i e0 h1
      simp only [hσ i s g1]; rw [hs.esz s e g2, g3.esz]
    · intro i e0 h1
      obtain ⟨s, e, g1, g2, g3⟩ := hget i e0 h1
      have ho := hs.obj s e g2
      simp only [hσ i s g1]
      cases hlv : e0.o.live with
      | false => exact obj_dead (fun g => by rw [lv_live g] at hlv; cases hlv)
      | true =>
      rw [g3.o hlv] at ho
      exact ObjOk_unren (σ := sig sl hp.length) (ρ1 := ρ) (fun _ _ => rfl) (fun hr => (g3.own hr).1) g3.inn ho
    · intro i e0 h1 h2 h3
      obtain ⟨s, e, g1, g2, g3⟩ := hget i e0 h1
      refine ⟨fun g => g.2 ⟨i, e0, h1, h2, h3, rfl⟩, ?_⟩
      rw [hσ i s g1] at h3 ⊢
      exact (hs.obj s e g2).lt (by rw [g3.o (lv_live h3), AObj.ren_lv]; exact h3)
    · intro i e0 p h1 h2 h3
      obtain ⟨s, e, g1, g2, g3⟩ := hget i e0 h1
      rw [g3.par] at h2; cases h2
    · intro i e0 h1 h2 h3 h4
      obtain ⟨s, e, g1, g2, g3⟩ := hget i e0 h1
      simp only [hσ i s g1] at h4 ⊢
      exact hstill s e g2 (by rw [g3.o (lv_live h4), AObj.ren_lv]; exact h4) (g3.giv h2).1 (g3.giv h2).2
    · intro i j e e' h1 h2 hne h3 h4 h5 h6
      obtain ⟨s, e1, g1, g2, g3⟩ := hget i e h1
      obtain ⟨s', e1', g1', g2', g3'⟩ := hget j e' h2
      simp only [hσ i s g1] at h5 ⊢
      simp only [hσ j s' g1'] at h6 ⊢
      refine hs.apart s s' e1 e1' g2 g2' (fun g => ?_) (g3.own h3).1 (g3'.own h4).1 (by rw [g3.o (lv_live h5), AObj.ren_lv]; exact h5) (by rw [g3'.o (lv_live h6), AObj.ren_lv]; exact h6)
      subst g
      exact hne (owns_inj hnd i j s e e' g1 g1' h1 h2 h3 h4)
  have hvs0 : VRs (fun i => ρ (sig sl hp.length i)) hp0.length args0 vs := VRs_unren (σ := sig sl hp.length) (ρ1 := ρ) (fun _ _ => rfl) args0 vs hin (hargs ▸ hvs)
  refine (h.2 base _ w vs hs0 hvs0).mono ?_
  rintro e w' ⟨r0, v, hp0', ρ0', rfl, k1, k2, k3, k4, k5⟩
  -- the memory behind the call
  let ρ' : Nat → Loc := fun j => if j < hp.length then ρ j else ρ0' (hp0.length + (j - hp.length))
  have hρlt : ∀ j, j < hp.length → ρ' j = ρ j := fun j hj => by simp [ρ', hj]
  have hlen : (merge sl hp hp0 hp0').length = hp.length + (hp0'.length - hp0.length) := by
    simp [merge, mergeOld_length, mergeNew_eq]
  have hslt : ∀ (i s : Nat), sl[i]? = some s → s < hp.length := by
    intro i s hi
    have : i < hp0.length := by
      rw [← hsl]
      rcases Nat.lt_or_ge i sl.length with g | g
      · exact g
      · rw [List.getElem?_eq_none g] at hi; cases hi
    obtain ⟨s', e, g1, g2, g3⟩ := hget i hp0[i] (List.getElem?_eq_getElem this)
    rw [hi] at g1; cases g1
    rcases Nat.lt_or_ge s hp.length with g | g
    · exact g
    · rw [List.getElem?_eq_none g] at g2; cases g2
  have hsig : ∀ b, b < hp0'.length → sig sl hp.length b < (merge sl hp hp0 hp0').length ∧ ρ' (sig sl hp.length b) = ρ0' b := by
    intro b hb
    rw [hlen]
    rcases Nat.lt_or_ge b hp0.length with g | g
    · have g' : b < sl.length := by omega
      have e1 : sl[b]? = some sl[b] := by simp [g']
      rw [hσ b _ e1]
      have := hslt b _ e1
      refine ⟨by omega, ?_⟩
      rw [hρlt _ this, k5 b g, hσ b _ e1]
    · rw [sig_ge sl hp.length b (by omega), hsl]
      refine ⟨by omega, ?_⟩
      simp only [ρ']
      rw [if_neg (by omega)]
      congr 1; omega
  have hVR : VR ρ' (merge sl hp hp0 hp0').length (r0.ren (sig sl hp.length)) v := VR_ren hsig r0 v k2
  -- what an entry of the memory behind the call is
  have hent : ∀ (j : Nat) (e : Ent), (merge sl hp hp0 hp0')[j]? = some e →
      (∃ e1, hp[j]? = some e1 ∧ j < hp.length ∧ e.esz = e1.esz ∧ (e.o.live = true → e = e1 ∧ j ∉ ownsOf sl hp0 ∧ ∀ p, e1.par = some p → p ∉ ownsOf sl hp0)) ∨
      (∃ i e1, hp0'[i]? = some e1 ∧ j = sig sl hp.length i ∧ e.esz = e1.esz ∧ e.ro = false ∧ e.par = none ∧ (j < hp.length → j ∈ ownsOf sl hp0) ∧ (e.o.live = true → e1.ro = false ∧ e1.par = none ∧ e.o = e1.o.ren (sig sl hp.length))) := by
    intro j e hj
    have clean : ∀ e1 : Ent, (cleanO (sig sl hp.length) e1).live = true → e1.ro = false ∧ e1.par = none ∧ cleanO (sig sl hp.length) e1 = e1.o.ren (sig sl hp.length) := by
      intro e1 hl
      unfold cleanO at hl ⊢
      cases hr : e1.ro <;> cases hp : e1.par <;> simp_all [AObj.live]
    rcases Nat.lt_or_ge j hp.length with g | g
    · simp only [merge] at hj
      rw [List.getElem?_append_left (by rw [mergeOld_length]; exact g), mergeOld_get, Nat.zero_add, List.getElem?_eq_getElem g] at hj
      simp only [Option.map_some, Option.some.injEq] at hj
      unfold mergeE at hj
      have hjg : hp[j]? = some hp[j] := by simp [g]
      split at hj
      · rename_i e0 hk0
        obtain ⟨i, q1, q2⟩ := seek_some hk0
        split at hj
        · rename_i hro
          refine .inl ⟨hp[j], hjg, g, by rw [← hj], fun _ => ⟨hj.symm, ?_⟩⟩
          obtain ⟨s, x, g1, g2, g3⟩ := hget i e0 q2
          rw [q1] at g1; cases g1
          rw [hjg] at g2; cases g2
          exact g3.giv hro
        · rename_i hro
          have hi' : i < hp0'.length := by
            have : i < hp0.length := by
              rcases Nat.lt_or_ge i hp0.length with g | g
              · exact g
              · rw [List.getElem?_eq_none g] at q2; cases q2
            omega
          have hmem : j ∈ ownsOf sl hp0 := ownsOf_mem.2 ⟨i, e0, q1, q2, hro⟩
          obtain ⟨s, x, g1, g2, g3⟩ := hget i e0 q2
          rw [q1] at g1; cases g1
          rw [hjg] at g2
          have hfirst : ∀ i', i' < i → sl[i']? ≠ some j := by
            intro i' hi'' hs'
            have hi0 : i' < hp0.length := by
              rw [← hsl]
              rcases Nat.lt_or_ge i' sl.length with g | g
              · exact g
              · rw [List.getElem?_eq_none g] at hs'; cases hs'
            cases hro' : (hp0[i']).ro with
            | false =>
              have := owns_inj hnd i' i j _ e0 hs' q1 (List.getElem?_eq_getElem hi0) q2 hro' hro
              omega
            | true =>
              obtain ⟨s', x', g1', g2', g3'⟩ := hget i' hp0[i'] (List.getElem?_eq_getElem hi0)
              rw [hs'] at g1'; cases g1'
              exact (g3'.giv hro').1 hmem
          have hk1 := seek_find (hp := hp0') q1 hi' hfirst
          rw [List.getElem?_eq_getElem hi'] at hk1
          rw [hk1] at hj
          simp only at hj
          refine .inr ⟨i, hp0'[i], List.getElem?_eq_getElem hi', (hσ i j q1).symm, ?_, by rw [← hj], by rw [← hj], fun _ => hmem, fun hl => ?_⟩
          · have q5 := k3.esz i _ (List.getElem?_eq_getElem hi')
            have : i < hp0.length := by
              rcases Nat.lt_or_ge i hp0.length with g | g
              · exact g
              · rw [List.getElem?_eq_none g] at q2; cases q2
            rw [k5 i this, hσ i j q1] at q5
            rw [← hj, ← q5]
            simp only
            rw [hs.esz j _ hjg]
          · subst hj
            simp only at hl ⊢
            exact clean _ hl
      · rename_i hk0
        have hno : j ∉ ownsOf sl hp0 := by
          intro hm
          obtain ⟨i, e0, q1, q2, q3⟩ := ownsOf_mem.1 hm
          have hi0 : i < hp0.length := by
            rcases Nat.lt_or_ge i hp0.length with g | g
            · exact g
            · rw [List.getElem?_eq_none g] at q2; cases q2
          -- the first place of 'j'
          have : ∀ (sl : List Nat) (hp0 : Hp) (i : Nat), sl[i]? = some j → i < hp0.length → seek sl hp0 j = none → False := by
            intro sl
            induction sl with
            | nil => intro hp0 i h; simp at h
            | cons x sl ih =>
              intro hp0 i h1 h2 h3
              cases hp0 with
              | nil => simp at h2
              | cons y r =>
                simp only [seek] at h3
                split at h3
                · cases h3
                · rename_i hb
                  cases i with
                  | zero => simp at h1; subst h1; simp at hb
                  | succ i => simp at h1 h2; exact ih r i h1 h2 h3
          exact this sl hp0 i q1 hi0 hk0
        split at hj
        · rename_i p hpar
          split at hj
          · rename_i e0 hk1
            split at hj
            · subst hj
              exact .inl ⟨hp[j], hjg, g, rfl, fun hl => by simp [AObj.live] at hl⟩
            · rename_i hro
              refine .inl ⟨hp[j], hjg, g, by rw [← hj], fun _ => ⟨hj.symm, hno, fun p' hp' => ?_⟩⟩
              rw [hpar] at hp'; cases hp'
              intro hm
              obtain ⟨i, e1, q1, q2, q3⟩ := ownsOf_mem.1 hm
              obtain ⟨i0, r1, r2⟩ := seek_some hk1
              obtain ⟨s', x', g1', g2', g3'⟩ := hget i0 e0 r2
              rw [r1] at g1'; cases g1'
              exact (g3'.giv hro).1 hm
          · rename_i hk1
            refine .inl ⟨hp[j], hjg, g, by rw [← hj], fun _ => ⟨hj.symm, hno, fun p' hp' => ?_⟩⟩
            rw [hpar] at hp'; cases hp'
            intro hm
            obtain ⟨i, e1, q1, q2, q3⟩ := ownsOf_mem.1 hm
            have : ∀ (sl : List Nat) (hp0 : Hp) (i : Nat), sl[i]? = some p → (∃ e, hp0[i]? = some e) → seek sl hp0 p = none → False := by
              intro sl
              induction sl with
              | nil => intro hp0 i h; simp at h
              | cons x sl ih =>
                intro hp0 i h1 h2 h3
                cases hp0 with
                | nil => simp at h2
                | cons y r =>
                  simp only [seek] at h3
                  split at h3
                  · cases h3
                  · rename_i hb
                    cases i with
                    | zero => simp at h1; subst h1; simp at hb
                    | succ i => simp at h1 h2; exact ih r i h1 (by simpa using h2) h3
            exact this sl hp0 i q1 ⟨e1, q2⟩ hk1
        · rename_i hpar
          refine .inl ⟨hp[j], hjg, g, by rw [← hj], fun _ => ⟨hj.symm, hno, fun p' hp' => ?_⟩⟩
          rw [hpar] at hp'; cases hp'
    · simp only [merge] at hj
      rw [List.getElem?_append_right (by rw [mergeOld_length]; exact g), mergeOld_length, mergeNew_eq, List.getElem?_map, List.getElem?_drop] at hj
      simp only [Option.map_eq_some_iff] at hj
      obtain ⟨e1, q1, q2⟩ := hj
      refine .inr ⟨hp0.length + (j - hp.length), e1, q1, ?_, by rw [← q2], by rw [← q2], by rw [← q2], fun g' => by omega, fun hl => ?_⟩
      · rw [sig_ge _ _ _ (by omega), hsl]; omega
      · subst q2; exact clean _ hl
  have hlt' : ∀ (i : Nat) (e1 : Ent), hp0'[i]? = some e1 → i < hp0'.length := fun i e1 h => by
    rcases Nat.lt_or_ge i hp0'.length with g | g
    · exact g
    · rw [List.getElem?_eq_none g] at h; cases h
  refine ⟨r0.ren (sig sl hp.length), v, merge sl hp hp0 hp0', ρ', rfl, (Then_eq sl hp hp0 r0 hp0' K) ▸ hK _ _ k1, hVR, ?_, by rw [hlen]; omega, hρlt⟩
  refine ⟨fun i hi => k3.size i (hF i hi), fun i hi => ?_, by rw [k3.tape]; exact hs.tape, by rw [k3.os]; exact hs.os, by rw [k3.out]; exact hs.out, ?_, ?_, ?_, ?_, ?_, ?_⟩
  · rw [k3.old i (hF i hi)]; exact hs.old i hi
  · intro j e hj
    rcases hent j e hj with ⟨e1, q1, q2, q3, q4⟩ | ⟨i, e1, q1, rfl, q3, q4⟩
    · rw [hρlt j q2, hs.esz j e1 q1, q3]
    · rw [(hsig i (hlt' i e1 q1)).2, k3.esz i e1 q1, q3]
  · intro j e hj
    by_cases hlv : e.o.lv (ρ' j) = true
    case neg => exact obj_dead hlv
    case pos =>
      have hl := lv_live hlv
      rcases hent j e hj with ⟨e1, q1, q2, q3, q4⟩ | ⟨i, e1, q1, rfl, q3, q4, q5, q6, q7⟩
      · obtain ⟨rfl, q5, q6⟩ := q4 hl
        rw [hρlt j q2] at hlv ⊢
        refine ObjOk_mono (by rw [hlen]; omega) (fun b hb => hρlt b hb) ?_ (hs.obj j e q1)
        exact k3.old _ (hstill j e q1 hlv q5 q6)
      · obtain ⟨g1, g2, g3⟩ := q7 hl
        rw [(hsig i (hlt' i e1 q1)).2, g3, q4]
        have := k3.obj i e1 q1
        rw [g1] at this
        exact ObjOk_ren hsig this
  · intro j e hj hro hl
    rcases hent j e hj with ⟨e1, q1, q2, q3, q4⟩ | ⟨i, e1, q1, rfl, q3, q4, q5, q6, q7⟩
    · obtain ⟨rfl, q5, q6⟩ := q4 (lv_live hl)
      rw [hρlt j q2] at hl ⊢
      exact ⟨(hs.own j e q1 hro hl).1, k3.size _ (hstill j e q1 hl q5 q6)⟩
    · obtain ⟨g1, g2, g3⟩ := q7 (lv_live hl)
      rw [(hsig i (hlt' i e1 q1)).2] at hl ⊢
      have := k3.own i e1 q1 g1 (by rw [g3, AObj.ren_lv] at hl; exact hl)
      exact ⟨fun g => this.1 (hF _ g), this.2⟩
  · intro j e p hj hp' hl
    rcases hent j e hj with ⟨e1, q1, q2, q3, q4⟩ | ⟨i, e1, q1, rfl, q3, q4, q5, q6, q7⟩
    · obtain ⟨rfl, q5, q6⟩ := q4 (lv_live hl)
      rw [hρlt j q2] at hl
      obtain ⟨g1, g2, e', g3, g4, g5⟩ := hs.views j e p q1 hp' hl
      have hplt : p < hp.length := by
        rcases Nat.lt_or_ge p hp.length with g | g
        · exact g
        · rw [List.getElem?_eq_none g] at g3; cases g3
      refine ⟨g1, by rw [hρlt j q2, hρlt p hplt]; exact g2, e', ?_, g4, by rw [hρlt p hplt]; exact g5⟩
      -- the parent stands as it stood
      have hpo := q6 p hp'
      simp only [merge]
      rw [List.getElem?_append_left (by rw [mergeOld_length]; exact hplt), mergeOld_get, Nat.zero_add, g3]
      simp only [Option.map_some, Option.some.injEq]
      have hpp : e'.par = none := by
        cases hq : e'.par with
        | none => rfl
        | some q => have := (hs.views p e' q g3 hq g5).1; rw [g4] at this; cases this
      unfold mergeE
      split
      · rename_i e0 hk0
        obtain ⟨i, r1, r2⟩ := seek_some hk0
        cases hro0 : e0.ro with
        | true => rfl
        | false => exact absurd (ownsOf_mem.2 ⟨i, e0, r1, r2, hro0⟩) hpo
      · rw [hpp]
    · rw [q5] at hp'; cases hp'
  · intro j e hj hro hp' hl
    rcases hent j e hj with ⟨e1, q1, q2, q3, q4⟩ | ⟨i, e1, q1, rfl, q3, q4, q5, q6, q7⟩
    · obtain ⟨rfl, q5, q6⟩ := q4 (lv_live hl)
      rw [hρlt j q2] at hl ⊢; exact hs.given j e q1 hro hp' hl
    · rw [q4] at hro; cases hro
  · intro j j' e e' hj hj' hne hro hro' hl hl'
    rcases hent j e hj with ⟨e1, q1, q2, q3, q4⟩ | ⟨i, e1, q1, rfl, q3, q4, q5, q6, q7⟩ <;> rcases hent j' e' hj' with ⟨e1', q1', q2', q3', q4'⟩ | ⟨i', e1', q1', rfl, q3', q4', q5', q6', q7'⟩
    · obtain ⟨rfl, q5, q6⟩ := q4 (lv_live hl)
      obtain ⟨rfl, q5', q6'⟩ := q4' (lv_live hl')
      rw [hρlt j q2] at hl ⊢
      rw [hρlt j' q2'] at hl' ⊢
      exact hs.apart j j' e e' q1 q1' hne hro hro' hl hl'
    · obtain ⟨rfl, q5, q6⟩ := q4 (lv_live hl)
      obtain ⟨g1', g2', g3'⟩ := q7' (lv_live hl')
      rw [hρlt j q2] at hl ⊢
      rw [(hsig i' (hlt' i' e1' q1')).2] at hl' ⊢
      have r1 := hstill j e q1 hl q5 q6
      have r2 := k3.own i' e1' q1' g1' (by rw [g3', AObj.ren_lv] at hl'; exact hl')
      exact fun g => r2.1 (g ▸ r1)
    · obtain ⟨g1, g2, g3⟩ := q7 (lv_live hl)
      obtain ⟨rfl, q5', q6'⟩ := q4' (lv_live hl')
      rw [hρlt j' q2'] at hl' ⊢
      rw [(hsig i (hlt' i e1 q1)).2] at hl ⊢
      have r1 := hstill j' e' q1' hl' q5' q6'
      have r2 := k3.own i e1 q1 g1 (by rw [g3, AObj.ren_lv] at hl; exact hl)
      exact fun g => r2.1 (g ▸ r1)
    · obtain ⟨g1, g2, g3⟩ := q7 (lv_live hl)
      obtain ⟨g1', g2', g3'⟩ := q7' (lv_live hl')
      rw [(hsig i (hlt' i e1 q1)).2] at hl ⊢
      rw [(hsig i' (hlt' i' e1' q1')).2] at hl' ⊢
      exact k3.apart i i' e1 e1' q1 q1' (fun g => hne (by rw [g])) g1 g1' (by rw [g3, AObj.ren_lv] at hl; exact hl) (by rw [g3', AObj.ren_lv] at hl'; exact hl')

mutual
theorem ren_none (σ : Nat → Nat) : ∀ v : AV, v.inn 0 → v.ren σ = v
  | .int k x, h => by simp [AV.ren]
  | .bool b, h => by simp [AV.ren]
  | .str l, h => by simp [AV.ren]
  | .con l, h => by simp [AV.ren]
  | .ptr b i off j, h => by simp [AV.inn] at h
  | .sl b off len cap, h => by simp [AV.inn] at h
  | .mp b, h => by simp [AV.inn] at h
  | .ints k m xs, h => by simp [AV.ren]
  | .agg vs, h => by simp only [AV.ren]; rw [rens_none σ vs (by simpa [AV.inn] using h)]
  | .tup vs, h => by simp only [AV.ren]; rw [rens_none σ vs (by simpa [AV.inn] using h)]
  | .fn f vs, h => by simp only [AV.ren]; rw [rens_none σ vs (by simpa [AV.inn] using h)]
  | .top, h => by simp [AV.ren]
theorem rens_none (σ : Nat → Nat) : ∀ vs : List AV, AV.inns 0 vs → AV.rens σ vs = vs
  | [], h => by simp [AV.rens]
  | v :: vs, h => by
    simp only [AV.inns] at h
    simp only [AV.rens]
    rw [ren_none σ v h.1, rens_none σ vs h.2]
end

theorem merge_nil (hp : Hp) : merge [] hp [] [] = hp := by
  have : ∀ (hp : Hp) (σ : Nat → Nat) (j : Nat), mergeOld [] σ [] [] j hp = hp := by
    intro hp σ
    induction hp with
    | nil => intro j; rfl
    | cons e r ih =>
      intro j
      simp only [mergeOld, ih]
      congr 1
      simp only [mergeE, seek]
      cases e.par <;> rfl
  simp [merge, this, mergeNew]

/-- a call that asks for no memory and leaves none -/
theorem AC.pure {f : FuncId} {args : List AV} {hp : Hp} {v : AV} {K : AV → Hp → Prop} (h : AC P f args [] fun r hp' => r = v ∧ hp' = []) (hin : AV.inns 0 args) (hv : v.inn 0) (hK : K v hp) : AC P f args hp K := by
  refine AC.frame h [] trivial rfl hin (rens_none _ args hin).symm ?_
  rintro r0 hp0' ⟨rfl, rfl⟩
  rw [Then_eq, ren_none _ _ hv, merge_nil]
  exact hK
end
end Go.Aw
