/-
  AwQ: a small region that draws its order, walked in every order. Own work.
-/
import Derived.Test.YtdababcblhbpeaaAwW
set_option linter.unusedVariables false
set_option linter.unusedSimpArgs false
namespace Go.Aw

@[irreducible] def Both (p q : Prop) : Prop := p ∧ q
theorem Both.mk {p q : Prop} (h : p) (h' : q) : Both p q := by unfold Both; exact ⟨h, h'⟩
theorem Both.out {p q : Prop} (h : Both p q) : p ∧ q := by unfold Both at h; exact h
def eachK : List Nat → (Nat → Prop) → Prop
  | [], _ => True
  | i :: r, f => match r with | [] => f i | j :: r' => Both (f i) (eachK (j :: r') f)
theorem eachK_get {f : Nat → Prop} : ∀ {l : List Nat}, eachK l f → ∀ i ∈ l, f i
  | [], _, i, hi => by cases hi
  | [x], h, i, hi => by simp at hi; subst hi; exact h
  | x :: y :: r, h, i, hi => by
    have h := Both.out h
    rcases List.mem_cons.1 hi with rfl | hi
    · exact h.1
    · exact eachK_get (l := y :: r) h.2 i hi
def allNat (l : List Nat) : List Nat → Bool
  | [] => true
  | x :: r => match hasNat x l with | true => allNat l r | false => false
theorem allNat_iff {l : List Nat} : ∀ {r : List Nat}, allNat l r = true ↔ ∀ x ∈ r, x ∈ l
  | [] => by simp [allNat]
  | x :: r => by
    simp only [allNat]
    cases h : hasNat x l with
    | true =>
      have := hasNat_iff.1 h
      simp only [List.mem_cons, forall_eq_or_imp, this, true_and]
      exact allNat_iff
    | false =>
      have : ¬ x ∈ l := fun g => by rw [hasNat_iff.2 g] at h; cases h
      simp [this]
def readyL (all : Array Oper) (l : List Nat) : Nat → List Nat
  | 0 => []
  | n + 1 => match hasNat n l, allNat l (edgesB all n) with
    | false, true => readyL all l n ++ [n]
    | _, _ => readyL all l n
theorem readyL_mem {all : Array Oper} {l : List Nat} {i : Nat} : ∀ {n : Nat}, i < n → i ∉ l → (∀ e ∈ edgesB all i, e ∈ l) → i ∈ readyL all l n
  | 0, h, _, _ => by omega
  | n + 1, h, h1, h2 => by
    simp only [readyL]
    by_cases e : i = n
    · subst e
      have a : hasNat i l = false := by cases g : hasNat i l with | true => exact absurd (hasNat_iff.1 g) h1 | false => rfl
      rw [a, allNat_iff.2 h2]
      simp
    · have := readyL_mem (n := n) (by omega) h1 h2
      split
      · simp [this]
      · exact this
def evAll (A : CallsP) (T : Tab) (N : Nat) (all : Array Oper) : Nat → List Nat → Fr → Hp → (Fr → Hp → Prop) → Prop
  | 0, _, fr, hp, K => K fr hp
  | f + 1, l, fr, hp, K => match readyL all l all.size with
    | [] => K fr hp
    | x :: r => eachK (x :: r) fun i => match all[i]? with
      | some o => planBar A T N all o fr hp fun fr' hp' => evAll A T N all f (i :: l) fr' hp' K
      | none => False

section
variable {P : Program} {T : Tab} {N M : Nat}
theorem evAll_any (hT : TOk P T) {all : Array Oper} {w0 : Base} {ρ0 : Nat → Loc} {Q : Exit → Act → World → Prop} {K : Fr → Hp → Prop}
    (hQ : ∀ a w fr hp ρ, K fr hp → HSat w0 ρ hp w → FSat ρ hp.length fr a.tmps → a.tmps.size = N → a.defers = [] → M ≤ hp.length → (∀ b, b < M → ρ b = ρ0 b) → Q .normal a w) :
    ∀ (fuel : Nat) (listed : Array Bool) (l : List Nat) (fr : Fr) (hp : Hp) (ρ : Nat → Loc) (a : Act) (w : World),
      ((List.range all.size).filter fun i => !listed.getD i false).length ≤ fuel → listed.size = all.size → (∀ i, listed.getD i false = true ↔ i ∈ l) → (∀ i ∈ l, i < all.size) →
      HSat w0 ρ hp w → FSat ρ hp.length fr a.tmps → a.tmps.size = N → a.defers = [] → M ≤ hp.length → (∀ b, b < M → ρ b = ρ0 b) →
      evAll (AC P) T N all fuel l fr hp K → wpAny P .any all Q fuel listed a w := by
  intro fuel
  induction fuel with
  | zero =>
    intro listed l fr hp ρ a w hc hsz hl hlt h1 h2 h3 h4 h5 h6 he
    have hall : ∀ i, i < all.size → listed.getD i false = true := by
      intro i hi
      cases hb : listed.getD i false with
      | true => rfl
      | false =>
        have : i ∈ (List.range all.size).filter fun i => !listed.getD i false := by simp [hi]; simpa using hb
        rw [List.length_eq_zero_iff.1 (Nat.le_zero.1 hc)] at this
        simp at this
    refine ⟨?_, hQ a w fr hp ρ he h1 h2 h3 h4 h5 h6⟩
    cases hr : Region.ready .any all listed with
    | nil => rfl
    | cons i r =>
      have : i ∈ Region.ready .any all listed := by rw [hr]; simp
      rw [ready_mem hsz] at this
      obtain ⟨o, g1, g2, _⟩ := this
      rw [hall i (get_lt g1)] at g2; cases g2
  | succ fuel ih =>
    intro listed l fr hp ρ a w hc hsz hl hlt h1 h2 h3 h4 h5 h6 he
    refine ⟨fun hr => ?_, fun i hi => ?_⟩
    · have hnil : readyL all l all.size = [] := by
        cases hq : readyL all l all.size with
        | nil => rfl
        | cons x r =>
          exfalso
          have hx : x ∈ readyL all l all.size := by rw [hq]; simp
          have key : ∀ n, n ≤ all.size → x ∈ readyL all l n → x < all.size ∧ x ∉ l ∧ ∀ e ∈ edgesB all x, e ∈ l := by
            intro n
            induction n with
            | zero => intro _ h; simp [readyL] at h
            | succ n ihn =>
              intro hn h
              simp only [readyL] at h
              split at h
              · rename_i g1 g2
                rcases List.mem_append.1 h with h | h
                · exact ihn (by omega) h
                · simp at h; subst h
                  refine And.intro (by omega) (And.intro (fun g => ?_) (allNat_iff.1 g2))
                  rw [hasNat_iff.2 g] at g1; cases g1
              · exact ihn (by omega) h
          obtain ⟨k1, k2, k3⟩ := key _ (Nat.le_refl _) hx
          have ho : all[x]? = some all[x] := by simp [k1]
          have : x ∈ Region.ready .any all listed := by
            rw [ready_mem hsz]
            refine ⟨all[x], ho, ?_, fun e he' => ?_⟩
            · cases g : listed.getD x false with
              | true => exact absurd ((hl x).1 g) k2
              | false => rfl
            · rw [edgesB_of ho] at k3
              exact (hl e).2 (k3 e he')
          rw [hr] at this; cases this
      simp only [evAll, hnil] at he
      exact hQ a w fr hp ρ he h1 h2 h3 h4 h5 h6
    · rw [ready_mem hsz] at hi
      obtain ⟨o, ho, hul, hed⟩ := hi
      have hilt := get_lt ho
      have hlsz : i < listed.size := by rw [hsz]; exact hilt
      have hcnt : ((List.range all.size).filter fun k => !(listed.setIfInBounds i true).getD k false).length ≤ fuel := by
        have := filter_lt (p := fun k => !(listed.setIfInBounds i true).getD k false) (q := fun k => !listed.getD k false) (x := i) (l := List.range all.size)
          (by intro y hy; simp only [listed_set hlsz] at hy; split at hy <;> simp_all) (by simp [hul]) (by simp [listed_set hlsz]) (by simp [hilt])
        omega
      have hmem : i ∈ readyL all l all.size := by
        refine readyL_mem hilt (fun g => ?_) (fun e he' => ?_)
        · rw [(hl i).2 g] at hul; cases hul
        · rw [edgesB_of ho] at he'
          exact (hl e).1 (hed e he')
      simp only [evAll] at he
      cases hq : readyL all l all.size with
      | nil => rw [hq] at hmem; cases hmem
      | cons x r =>
      rw [hq] at he hmem
      have he := eachK_get he i hmem
      simp only [ho, planBar] at he
      obtain ⟨b, he, hb⟩ := guardK_det he
      unfold wpOp
      simp only [ho]
      rw [guardK_wanted h2 hb]
      have hl' : ∀ k, (listed.setIfInBounds i true).getD k false = true ↔ k ∈ i :: l := by
        intro k
        rw [listed_set hlsz]
        split
        · rename_i e; subst e; simp
        · rename_i e; rw [hl k]; simp [e]
      have next : ∀ v cv hp' ρ' w', VR ρ' hp'.length v cv → HSat w0 ρ' hp' w' → hp.length ≤ hp'.length → (∀ b, b < hp.length → ρ' b = ρ b) →
          (dstK o.dst v N fr fun fr' => evAll (AC P) T N all fuel (i :: l) fr' hp' K) → wpAny P .any all Q fuel (listed.setIfInBounds i true) (a.put o.dst cv) w' := by
        intro v cv hp' ρ' w' k1 k2 k3 k4 hd
        obtain ⟨fr', q1, q2⟩ := dstK_sound (ρ := ρ') (n := hp'.length) h3 k1 (FSat_mono k3 k4 h2) hd
        exact ih _ (i :: l) fr' hp' ρ' _ w' hcnt (by simp [hsz]) hl' (by intro k hk; rcases List.mem_cons.1 hk with rfl | hk; exact hilt; exact hlt k hk) k2 q2 (by rw [put_size]; exact h3) (by rw [put_defers]; exact h4) (by omega) (fun b hb => by rw [k4 b (by omega)]; exact h6 b hb) q1
      cases b with
      | true =>
        simp only [if_true]
        exact .inl (evOper_sound hT h1 h2 he fun v cv hp' ρ' w' k0 k1 k2 k3 k4 => next v cv hp' ρ' w' k1 k2 k3 k4 k0)
      | false =>
        simp only [Bool.false_eq_true, if_false]
        exact next (.tup []) undef hp ρ w (by simp only [VR, VRs]; exact ⟨[], rfl, rfl⟩) h1 (Nat.le_refl _) (fun _ _ => rfl) he

/-- a region that draws its order: every order -/
theorem AW.drawAll {id : Nat} {ops : Array Oper} {keep : Nat → Bool} {Kn E G R fr hp} (hm : P.follows .mixedOrders = true) (hT : TOk P T)
    (h : evAll (AC P) T N ops ops.size [] fr hp fun fr' hp' => keepK keep fr' fun fr'' => Kn fr'' hp') : AW P N M (.region id ops true) Kn E G R fr hp := by
  rw [AW_iff]
  intro w0 ρ a w h1 h2 h3 h4 h5
  refine wp_region_any hm ?_
  have hs : HSat w0 ρ hp ({ w with drawn := w.drawn + 1 } : World) := h1.congr rfl rfl rfl rfl
  have h0 : ∀ i, (Array.replicate ops.size false).getD i false = false := by
    intro i
    rw [Array.getD_eq_getD_getElem?, Array.getElem?_replicate]
    split <;> rfl
  refine evAll_any (M := M) (ρ0 := ρ) hT ?_ _ _ [] fr hp ρ a _ ?_ (by simp) ?_ (by simp) hs h2 h3 h4 h5 (fun _ _ => rfl) h
  · intro a w fr hp ρ' k1 k2 k3 k4 k5 k6 k7
    obtain ⟨fr'', k8, k9⟩ := keepK_sound k3 k1
    exact ⟨fr'', hp, ρ', k8, k2, k9, k4, k5, k6, k7⟩
  · exact Nat.le_trans (List.length_filter_le _ _) (by simp)
  · intro i; rw [h0]; simp
end
end Go.Aw
