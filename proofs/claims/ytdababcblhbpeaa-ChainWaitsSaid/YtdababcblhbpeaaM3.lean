/-
  Own work: parts of the proof: AwW AwQ AwR.
-/
import Derived.Test.YtdababcblhbpeaaM9
import Derived.Orders

section
/-
  AwW: a region whose operations come in any order that its edges allow. Own work of this session.
-/
set_option linter.unusedVariables false
set_option linter.unusedSimpArgs false
namespace Go.Aw

def slotsO : Operand → List Nat
  | .tmp t => [t]
  | _ => []
def slotsOf : Op → List Nat
  | .move x | .assign x | .box _ x | .load _ x | .nilCheck x | .unOp _ _ x | .convert _ _ x | .fieldAddr _ x _ | .field _ x _ | .extract x _ => slotsO x
  | .pick c a b => slotsO c ++ (slotsO a ++ slotsO b)
  | .build _ ps => ps.toList.flatMap fun p => slotsO p.2
  | .buildSlice _ _ ps => ps.toList.flatMap fun p => slotsO p.2
  | .makeSlice _ l c => slotsO l ++ slotsO c
  | .store _ a v => slotsO a ++ slotsO v
  | .binOp _ _ x y _ => slotsO x ++ slotsO y
  | .makeFunc _ _ caps => caps.toList.flatMap slotsO
  | .slice _ x lo hi mx => slotsO x ++ ((match lo with | some o => slotsO o | none => []) ++ ((match hi with | some o => slotsO o | none => []) ++ (match mx with | some o => slotsO o | none => [])))
  | .lookup _ m k _ | .mapEntry _ m k => slotsO m ++ slotsO k
  | .mapUpdate _ m k v | .entryStore _ m k v => slotsO m ++ (slotsO k ++ slotsO v)
  | .range _ x | .next x _ | .entry x => slotsO x
  | .indexAddr _ x i | .index _ x i => slotsO x ++ slotsO i
  | .call c => (match c.callee with | .value f => slotsO f | _ => []) ++ c.args.toList.flatMap slotsO
  | _ => []

section
variable {T : Tab} {fr fr' : Fr}

theorem getK_congr {t : Nat} (h : Fr.find fr' t = Fr.find fr t) (K : AV → Prop) : getK t fr' K = getK t fr K := by rw [getK_eq, getK_eq, h]
theorem avK_congr {o : Operand} (h : ∀ t ∈ slotsO o, Fr.find fr' t = Fr.find fr t) (K : AV → Prop) : avK fr' o K = avK fr o K := by
  cases o <;> simp only [avK]
  exact getK_congr (h _ (by simp [slotsO])) K
theorem avsK_congr : ∀ {os : List Operand} (h : ∀ t ∈ os.flatMap slotsO, Fr.find fr' t = Fr.find fr t) (K : List AV → Prop), avsK fr' os K = avsK fr os K
  | [], h, K => rfl
  | o :: r, h, K => by
    simp only [avsK]
    rw [avK_congr (fun t ht => h t (by simp [ht]))]
    congr 1; funext v
    exact avsK_congr (fun t ht => h t (by simp only [List.flatMap_cons, List.mem_append]; exact .inr ht)) _
theorem avpK_congr : ∀ {os : List (Nat × Operand)} (h : ∀ t ∈ os.flatMap (fun p => slotsO p.2), Fr.find fr' t = Fr.find fr t) (K : List (Nat × AV) → Prop), avpK fr' os K = avpK fr os K
  | [], h, K => rfl
  | (i, o) :: r, h, K => by
    simp only [avpK]
    rw [avK_congr (fun t ht => h t (by simp [ht]))]
    congr 1; funext v
    exact avpK_congr (fun t ht => h t (by simp only [List.flatMap_cons, List.mem_append]; exact .inr ht)) _
theorem avoK_congr {o : Option Operand} (h : ∀ t ∈ (match o with | some o => slotsO o | none => []), Fr.find fr' t = Fr.find fr t) (K : Option AV → Prop) : avoK fr' o K = avoK fr o K := by
  cases o with
  | none => rfl
  | some o => simp only [avoK]; exact avK_congr h _

theorem evOp_congr {hp : Hp} {op : Op} (h : ∀ t ∈ slotsOf op, Fr.find fr' t = Fr.find fr t) (K : Kont) : evOp T fr' hp op K = evOp T fr hp op K := by
  cases op <;> simp only [evOp, slotsOf, List.mem_append] at h ⊢
  case move => exact avK_congr h _
  case assign => exact avK_congr h _
  case pick c a b =>
    rw [avK_congr (fun t ht => h t (.inl ht))]
    congr 1; funext g
    cases g <;> try rfl
    rename_i g
    cases g
    · exact avK_congr (fun t ht => h t (.inr (.inr ht))) _
    · exact avK_congr (fun t ht => h t (.inr (.inl ht))) _
  case box => split <;> first | rfl | exact avK_congr h _
  case build => exact avpK_congr h _
  case buildSlice => exact avpK_congr h _
  case makeSlice =>
    rw [avK_congr (fun t ht => h t (.inl ht))]
    congr 1; funext g
    exact avK_congr (fun t ht => h t (.inr ht)) _
  case load => exact avK_congr h _
  case store =>
    rw [avK_congr (fun t ht => h t (.inl ht))]
    congr 1; funext g
    exact avK_congr (fun t ht => h t (.inr ht)) _
  case nilCheck => exact avK_congr h _
  case binOp =>
    rw [avK_congr (fun t ht => h t (.inl ht))]
    congr 1; funext g
    exact avK_congr (fun t ht => h t (.inr ht)) _
  case unOp => exact avK_congr h _
  case convert => exact avK_congr h _
  case makeFunc f first caps => split <;> first | rfl | exact avsK_congr h _
  case slice =>
    split
    · rw [avK_congr (fun t ht => h t (.inl ht))]
      congr 1; funext g
      rw [avoK_congr (fun t ht => h t (.inr (.inl ht)))]
      congr 1; funext g
      exact avoK_congr (fun t ht => h t (.inr (.inr (.inl ht)))) _
    · rw [avK_congr (fun t ht => h t (.inl ht))]
      congr 1; funext g
      rw [avoK_congr (fun t ht => h t (.inr (.inl ht)))]
      congr 1; funext g
      rw [avoK_congr (fun t ht => h t (.inr (.inr (.inl ht))))]
      congr 1; funext g
      exact avK_congr (fun t ht => h t (.inr (.inr (.inr ht)))) _
  case fieldAddr => exact avK_congr h _
  case field => exact avK_congr h _
  case indexAddr =>
    rw [avK_congr (fun t ht => h t (.inl ht))]
    congr 1; funext g
    exact avK_congr (fun t ht => h t (.inr ht)) _
  case index =>
    rw [avK_congr (fun t ht => h t (.inl ht))]
    congr 1; funext g
    exact avK_congr (fun t ht => h t (.inr ht)) _
  case lookup =>
    rw [avK_congr (fun t ht => h t (.inl ht))]
    congr 1; funext g
    exact avK_congr (fun t ht => h t (.inr ht)) _
  case mapEntry =>
    rw [avK_congr (fun t ht => h t (.inl ht))]
    congr 1; funext g
    exact avK_congr (fun t ht => h t (.inr ht)) _
  case mapUpdate =>
    rw [avK_congr (fun t ht => h t (.inl ht))]
    congr 1; funext g
    rw [avK_congr (fun t ht => h t (.inr (.inl ht)))]
    congr 1; funext g
    exact avK_congr (fun t ht => h t (.inr (.inr ht))) _
  case entryStore =>
    rw [avK_congr (fun t ht => h t (.inl ht))]
    congr 1; funext g
    rw [avK_congr (fun t ht => h t (.inr (.inl ht)))]
    congr 1; funext g
    exact avK_congr (fun t ht => h t (.inr (.inr ht))) _
  case range => exact avK_congr h _
  case next => split <;> first | rfl | exact avK_congr h _
  case entry => exact avK_congr h _
  case extract => exact avK_congr h _
  case call c =>
    split
    · exact avsK_congr (fun t ht => h t (.inr ht)) _
    · rfl

theorem evOper_congr {A : CallsP} {hp : Hp} {op : Op} (h : ∀ t ∈ slotsOf op, Fr.find fr' t = Fr.find fr t) (K : Kont) : evOper A T fr' hp op K = evOper A T fr hp op K := by
  cases op <;> simp only [evOper] <;> try exact evOp_congr h K
  rename_i c
  split
  · rename_i f hc
    simp only [slotsOf, hc, List.mem_append] at h
    rw [avK_congr (fun t ht => h t (.inl ht))]
    congr 1; funext g
    split <;> try rfl
    exact avsK_congr (fun t ht => h t (.inr ht)) _
  · exact evOp_congr h K
end

/-! ### the plan -/
def edges (o : Oper) : List Nat := (o.after.toList.filter (Region.binds .any)).map (·.on)
def hasNat (x : Nat) : List Nat → Bool
  | [] => false
  | y :: r => match Nat.beq y x with | true => true | false => hasNat x r
def without (l : List Nat) : List Nat → List Nat
  | [] => []
  | x :: r => match hasNat x l with | true => without l r | false => x :: without l r

/-- an operation told ahead -/
def planPure (T : Tab) (N : Nat) (all : Array Oper) (o : Oper) (fr : Fr) (hp : Hp) (K : Fr → Prop) : Prop :=
  guardK all o fr fun b => (match b with
    | true => ∃ v, PureAt T fr hp o.op v ∧ dstK o.dst v N fr K
    | false => dstK o.dst (.tup []) N fr K)
/-- an operation at which all wait -/
def planBar (A : CallsP) (T : Tab) (N : Nat) (all : Array Oper) (o : Oper) (fr : Fr) (hp : Hp) (K : Fr → Hp → Prop) : Prop :=
  guardK all o fr fun b => (match b with
    | true => evOper A T fr hp o.op fun v hp' => dstK o.dst v N fr fun fr' => K fr' hp'
    | false => dstK o.dst (.tup []) N fr fun fr' => K fr' hp)
def evPlan (A : CallsP) (T : Tab) (N : Nat) (all : Array Oper) : List (Bool × Nat) → List Nat → Fr → Hp → (Fr → Hp → Prop) → Prop
  | [], _, fr, hp, K => K fr hp
  | (k, i) :: r, pend, fr, hp, K => match all[i]? with
    | some o => (match k with
      | false => planPure T N all o fr hp fun fr' => evPlan A T N all r (i :: pend) fr' hp K
      | true => planBar A T N all o fr hp fun fr' hp' => againsK T all fr' hp' (without (edges o) pend) ∧ evPlan A T N all r (without (edges o) pend) fr' hp' K)
    | none => False

def gslot (all : Array Oper) (o : Oper) : List Nat :=
  match o.guard with
  | none => []
  | some (j, _) => (match (all[j]?).bind (·.dst) with | some d => [d] | none => [])
def readsOf (all : Array Oper) (o : Oper) : List Nat := slotsOf o.op ++ gslot all o

theorem hasNat_iff {x : Nat} : ∀ {l : List Nat}, hasNat x l = true ↔ x ∈ l
  | [] => by simp [hasNat]
  | y :: r => by
    simp only [hasNat]
    split
    · rename_i hb
      have := Nat.eq_of_beq_eq_true hb
      subst this; simp
    · rename_i hb
      have hne : x ≠ y := fun e => by subst e; simp at hb
      rw [hasNat_iff (l := r)]; simp [hne]

theorem without_mem {l : List Nat} {x : Nat} : ∀ {p : List Nat}, x ∈ without l p ↔ x ∈ p ∧ x ∉ l
  | [] => by simp [without]
  | y :: r => by
    simp only [without]
    split
    · rename_i hb
      have := hasNat_iff.1 hb
      rw [without_mem (p := r)]
      simp only [List.mem_cons]
      constructor
      · exact fun ⟨h1, h2⟩ => ⟨.inr h1, h2⟩
      · rintro ⟨h1 | h1, h2⟩
        · subst h1; exact absurd this h2
        · exact ⟨h1, h2⟩
    · rename_i hb
      have hn : y ∉ l := fun h => by rw [hasNat_iff.2 h] at hb; cases hb
      simp only [List.mem_cons]
      rw [without_mem (p := r)]
      constructor
      · rintro (h1 | ⟨h1, h2⟩)
        · subst h1; exact ⟨.inl rfl, hn⟩
        · exact ⟨.inr h1, h2⟩
      · rintro ⟨h1 | h1, h2⟩
        · exact .inl h1
        · exact .inr ⟨h1, h2⟩

/-! what has to hold of a plan, by computing -/
def pureOkB (all : Array Oper) (i : Nat) : Bool :=
  match all[i]? with
  | some o => (match o.dst with
    | some d => !hasNat d (readsOf all o) && (List.range all.size).all fun k => Nat.beq k i || (match all[k]? with
      | some ok => (match ok.dst with | some d' => !Nat.beq d' d | none => true) && (!hasNat d (readsOf all ok) || hasNat i (edges ok))
      | none => false)
    | none => false)
  | none => false
def edgesB (all : Array Oper) (i : Nat) : List Nat := match all[i]? with | some o => edges o | none => []
def planOkW (all : Array Oper) : List (Bool × Nat) → Bool
  | [] => true
  | (k, i) :: r => Nat.blt i all.size && !hasNat i (r.map (·.2)) && (edgesB all i).all (fun e => !hasNat e (i :: r.map (·.2))) &&
      (k || pureOkB all i) && planOkW all r
/-- all wait at each operation that turns the memory -/
def barsB (all : Array Oper) : List (Bool × Nat) → Bool
  | [] => true
  | (k, i) :: r => (!k || r.all fun x => (edgesB all x.2).any fun y => hasNat y (i :: r.map (·.2))) && barsB all r
def planOkB (all : Array Oper) (plan : List (Bool × Nat)) : Bool := planOkW all plan && barsB all plan
def coverB (all : Array Oper) (plan : List (Bool × Nat)) : Bool :=
  (List.range all.size).all fun i => hasNat i (plan.map (·.2)) && (edgesB all i).all fun e => Nat.blt e i

theorem planOk_suffix {all : Array Oper} : ∀ {pre : List (Bool × Nat)} {k : Bool} {i : Nat} {r : List (Bool × Nat)}, planOkW all (pre ++ (k, i) :: r) = true →
    i < all.size ∧ i ∉ r.map (·.2) ∧ (∀ e ∈ edgesB all i, e ∉ i :: r.map (·.2)) ∧ (k = false → pureOkB all i = true) ∧ planOkW all r = true
  | [], k, i, r, h => by
    simp only [List.nil_append, planOkW, Bool.and_eq_true, Bool.not_eq_true', Bool.or_eq_true, List.all_eq_true] at h
    obtain ⟨⟨⟨⟨h1, h2⟩, h3⟩, h4⟩, h6⟩ := h
    refine ⟨by simpa using h1, fun g => (by rw [hasNat_iff.2 g] at h2; cases h2), fun e he g => (by have := h3 e he; rw [hasNat_iff.2 g] at this; cases this), fun hk => ?_, h6⟩
    rcases h4 with h4 | h4
    · rw [hk] at h4; cases h4
    · exact h4
  | x :: pre, k, i, r, h => by
    obtain ⟨kx, ix⟩ := x
    simp only [List.cons_append, planOkW, Bool.and_eq_true] at h
    exact planOk_suffix h.2
theorem bars_suffix {all : Array Oper} : ∀ {pre : List (Bool × Nat)} {i : Nat} {r : List (Bool × Nat)}, barsB all (pre ++ (true, i) :: r) = true → ∀ x ∈ r, ∃ y ∈ edgesB all x.2, y ∈ i :: r.map (·.2)
  | [], i, r, h, x, hx => by
    simp only [List.nil_append, barsB, Bool.and_eq_true, Bool.not_true, Bool.false_or, List.all_eq_true, List.any_eq_true] at h
    obtain ⟨y, hy, hy'⟩ := h.1 x hx
    exact ⟨y, hy, hasNat_iff.1 hy'⟩
  | z :: pre, i, r, h, x, hx => by
    obtain ⟨kz, iz⟩ := z
    simp only [List.cons_append, barsB, Bool.and_eq_true] at h
    exact bars_suffix h.2 x hx

structure PureOk (all : Array Oper) (i d : Nat) (o : Oper) : Prop where
  get : all[i]? = some o
  dst : o.dst = some d
  self : d ∉ readsOf all o
  others : ∀ (k : Nat) (ok : Oper), all[k]? = some ok → k ≠ i → ok.dst ≠ some d ∧ (d ∈ readsOf all ok → i ∈ edges ok)

theorem pureOk_of {all : Array Oper} {i : Nat} (h : pureOkB all i = true) : ∃ o d, PureOk all i d o := by
  unfold pureOkB at h
  split at h
  case h_2 => cases h
  rename_i o ho
  split at h
  case h_2 => cases h
  rename_i d hd
  simp only [Bool.and_eq_true, Bool.not_eq_true', List.all_eq_true, List.mem_range] at h
  refine ⟨o, d, ho, hd, fun g => (by rw [hasNat_iff.2 g] at h; cases h.1), fun k ok hk hne => ?_⟩
  have hlt : k < all.size := by
    rcases Nat.lt_or_ge k all.size with g | g
    · exact g
    · rw [Array.getElem?_eq_none g] at hk; cases hk
  have h2 := h.2 k hlt
  simp only [hk, Bool.or_eq_true, Bool.and_eq_true, Bool.not_eq_true'] at h2
  rcases h2 with h2 | ⟨h3, h4⟩
  · exact absurd (Nat.eq_of_beq_eq_true h2) hne
  · refine ⟨fun g => ?_, fun g => ?_⟩
    · rw [g] at h3; simp at h3
    · rcases h4 with h4 | h4
      · rw [hasNat_iff.2 g] at h4; cases h4
      · exact hasNat_iff.1 h4

theorem guardK_det {all : Array Oper} {o : Oper} {fr : Fr} {K : Bool → Prop} (h : guardK all o fr K) : ∃ b, K b ∧ guardK all o fr fun b' => b' = b := by
  unfold guardK at h ⊢
  split at h
  · exact ⟨true, h, rfl⟩
  · split at h
    case h_2 => exact h.elim
    rw [getK_eq] at h
    simp only [getK_eq]
    split at h
    · rename_i g hg
      exact ⟨_, h, rfl⟩
    · exact ⟨_, h, rfl⟩
    · exact h.elim

theorem guardK_mono {all : Array Oper} {o : Oper} {fr : Fr} {K K' : Bool → Prop} (h : guardK all o fr K) (hk : ∀ b, K b → K' b) : guardK all o fr K' := by
  unfold guardK at h ⊢
  split at h
  · exact hk _ h
  · split at h
    case h_2 => exact h.elim
    rw [getK_eq] at h
    simp only [getK_eq]
    split at h
    · exact hk _ h
    · exact hk _ h
    · exact h.elim

theorem guardK_congr {all : Array Oper} {o : Oper} {fr fr' : Fr} (h : ∀ t ∈ gslot all o, Fr.find fr' t = Fr.find fr t) (K : Bool → Prop) : guardK all o fr' K = guardK all o fr K := by
  unfold guardK gslot at *
  split
  · rfl
  · rename_i j want hg
    simp only [hg] at h
    split
    · rename_i d hd
      simp only [hd] at h
      exact getK_congr (h d (by simp)) _
    · rfl

theorem guardK_wanted {all : Array Oper} {o : Oper} {fr : Fr} {b : Bool} {ρ : Nat → Loc} {n : Nat} {a : Act} (hf : FSat ρ n fr a.tmps) (h : guardK all o fr fun b' => b' = b) : Region.wanted o (yielded all a.tmps) = b := by
  unfold guardK at h
  split at h
  · rename_i hg; simp [Region.wanted, hg, h]
  · rename_i j want hg
    split at h
    case h_2 => exact h.elim
    rename_i d hjd
    obtain ⟨g, h1, h2⟩ := getK_sound hf h
    split at h1
    · rename_i g
      simp only [VR] at h2
      have hy : yielded all a.tmps j = some g := by
        simp only [yielded]
        cases hj : all[j]? with
        | none => simp [hj] at hjd
        | some oj =>
          simp only [hj, Option.bind_some] at hjd
          have : a.tmps[d]? = some (.bool g) := by
            rw [Array.getD_eq_getD_getElem?] at h2
            cases hx : a.tmps[d]? with
            | none => simp [hx, undef] at h2
            | some x => simp [hx] at h2; rw [h2]
          simp [hjd, this]
      rw [← h1]
      simp [Region.wanted, hg, hy]
    · simp only [VR, VRs] at h2
      obtain ⟨cs, h2, rfl⟩ := h2
      have hy : yielded all a.tmps j = none := by
        simp only [yielded]
        cases hj : all[j]? with
        | none => simp [hj] at hjd
        | some oj =>
          simp only [hj, Option.bind_some] at hjd
          rw [Array.getD_eq_getD_getElem?] at h2
          cases hx : a.tmps[d]? with
          | none => simp [hjd, hx]
          | some x => simp [hx] at h2; simp [hjd, hx, h2]
      rw [← h1]
      simp [Region.wanted, hg, hy]
    · exact h1.elim

theorem evOp_wp {P : Program} {T : Tab} (hT : TOk P T) {w0 : Base} {w : World} {ρ : Nat → Loc} {hp : Hp} (hs : HSat w0 ρ hp w) {fr : Fr} {a : Act} {o : Oper} {K : Kont} {next : Act → World → Prop} {Q : Exit → Act → World → Prop}
    (hf : FSat ρ hp.length fr a.tmps) (h : evOp T fr hp o.op K)
    (hn : ∀ v cv hp' ρ' w', K v hp' → VR ρ' hp'.length v cv → HSat w0 ρ' hp' w' → hp.length ≤ hp'.length → (∀ b, b < hp.length → ρ' b = ρ b) → next (a.put o.dst cv) w') :
    o.wp P a w next Q := by
  obtain ⟨v, cv, hp', ρ', w', k1, k2, k3, k4, k5, k6⟩ := evOp_sound hT hs rfl hf h
  unfold Oper.wp
  rcases k2 with k2 | ⟨k2, rfl⟩
  · rw [k2]; exact hn _ _ _ _ _ k1 k3 k4 k5 k6
  · rw [k2]; exact hn _ _ _ _ _ k1 k3 k4 k5 k6

/-- slots without some -/
def hide (f : Nat → Bool) : Fr → Fr
  | [] => []
  | (t, v) :: r => if f t then hide f r else (t, v) :: hide f r
theorem hide_find (f : Nat → Bool) : ∀ (fr : Fr) (t : Nat), Fr.find (hide f fr) t = if f t then none else Fr.find fr t
  | [], t => by simp [hide, Fr.find]
  | (u, v) :: r, t => by
    simp only [hide]
    by_cases hu : f u = true
    · rw [if_pos hu, hide_find f r t]
      by_cases ht : f t = true
      · simp [ht]
      · have : Nat.beq u t = false := by
          cases hb : Nat.beq u t with
          | false => rfl
          | true => have := Nat.eq_of_beq_eq_true hb; subst this; exact absurd hu ht
        simp [ht, Fr.find, this]
    · rw [if_neg hu]
      simp only [Fr.find]
      by_cases hb : Nat.beq u t = true
      · have := Nat.eq_of_beq_eq_true hb
        subst this
        simp [hu]
      · have hb' : Nat.beq u t = false := Bool.eq_false_iff.2 hb
        simp only [hb']
        exact hide_find f r t

/-- where a region that draws stands: 'listed' is what has run; the evaluator is ahead by 'pend' -/
structure Mid (T : Tab) (N M : Nat) (all : Array Oper) (plan : List (Bool × Nat)) (w0 : Base) (ρ0 : Nat → Loc) (listed : Array Bool) (rest : List (Bool × Nat)) (pend : List Nat) (fr : Fr) (hp : Hp) (ρ : Nat → Loc) (a : Act) (w : World) : Prop where
  sat : HSat w0 ρ hp w
  size : a.tmps.size = N
  defers : a.defers = w0.ds
  hM : M ≤ hp.length
  hρ : ∀ b, b < M → ρ b = ρ0 b
  lsz : listed.size = all.size
  suf : ∃ pre, plan = pre ++ rest
  done : ∀ i, listed.getD i false = true → i ∉ rest.map (·.2)
  todo : ∀ i, i < all.size → listed.getD i false = false → i ∈ rest.map (·.2) ∨ (i ∈ pend ∧ againK T all fr hp i)
  pure : ∀ i ∈ pend, i ∉ rest.map (·.2) ∧ ∃ pre r, plan = pre ++ (false, i) :: r
  lt : ∀ i ∈ pend, ∀ o d, all[i]? = some o → o.dst = some d → d < N
  frame : ∀ t v, Fr.find fr t = some v → (∀ i ∈ pend, listed.getD i false = false → ∀ o, all[i]? = some o → o.dst ≠ some t) → VR ρ hp.length v (a.tmps.getD t undef)


theorem get_lt {all : Array Oper} {i : Nat} {o : Oper} (h : all[i]? = some o) : i < all.size := by
  rcases Nat.lt_or_ge i all.size with g | g
  · exact g
  · rw [Array.getElem?_eq_none g] at h; cases h

theorem edgesB_of {all : Array Oper} {i : Nat} {o : Oper} (h : all[i]? = some o) : edgesB all i = edges o := by simp [edgesB, h]

/-- 'i' stands ahead of 'k' in the plan: it is none of what 'k' comes after -/
theorem plan_order {all : Array Oper} {plan pre pre' r r' : List (Bool × Nat)} {b b' : Bool} {i k : Nat} {o : Oper} (hp : planOkW all plan = true) (h : plan = pre ++ (b, i) :: r) (h' : plan = pre' ++ (b', k) :: r') (hk : k ∈ r.map (·.2)) (ho : all[i]? = some o) : k ∉ edges o := by
  subst h
  obtain ⟨_, _, h3, _⟩ := planOk_suffix hp
  intro g
  rw [edgesB_of ho] at h3
  exact h3 k g (by simp only [List.mem_cons]; exact .inr hk)

def PutIs (N : Nat) (d : Option Nat) (v : AV) (fr fr' : Fr) : Prop :=
  match d with
  | none => fr' = fr
  | some d => d < N ∧ ∀ t, Fr.find fr' t = if t = d then some v else Fr.find fr t
theorem dst_put {N : Nat} {d : Option Nat} {v : AV} {fr : Fr} {K : Fr → Prop} (h : dstK d v N fr K) : ∃ fr', K fr' ∧ PutIs N d v fr fr' := by
  cases d with
  | none => exact ⟨fr, h, rfl⟩
  | some d =>
    simp only [dstK] at h
    split at h
    case h_2 => exact h.elim
    rename_i hd
    obtain ⟨fr', h1, h2⟩ := putK_find h
    exact ⟨fr', h1, by simpa using hd, h2⟩

section
variable {P : Program} {T : Tab} (hT : TOk P T) {N M : Nat} {all : Array Oper} {plan : List (Bool × Nat)} (hplan : planOkW all plan = true) {w0 : Base} {ρ0 : Nat → Loc}

/-- an operation that has been told ahead says the same when an other slot has turned -/
theorem again_congr {fr fr' : Fr} {hp : Hp} {k : Nat} {o : Oper} (ho : all[k]? = some o) (h : ∀ t ∈ readsOf all o, Fr.find fr' t = Fr.find fr t) (hd : ∀ d, o.dst = some d → Fr.find fr' d = Fr.find fr d) : againK T all fr' hp k = againK T all fr hp k := by
  unfold againK
  simp only [ho]
  split
  · rename_i d hdd
    rw [guardK_congr (fun t ht => h t (by simp [readsOf, ht]))]
    congr 1; funext b
    split
    · rw [getK_congr (hd d hdd)]
      congr 1; funext v
      exact evOp_congr (fun t ht => h t (by simp [readsOf, ht])) _
    · exact getK_congr (hd d hdd) _
  · rfl

include hplan
/-- the plan's next operation leaves the memory alone: it is told ahead -/
theorem Mid.ahead {listed : Array Bool} {i : Nat} {r : List (Bool × Nat)} {pend : List Nat} {fr : Fr} {hp : Hp} {ρ : Nat → Loc} {a : Act} {w : World} {K : Fr → Prop}
    (h : Mid T N M all plan w0 ρ0 listed ((false, i) :: r) pend fr hp ρ a w) (he : match all[i]? with | some o => planPure T N all o fr hp K | none => False) :
    ∃ fr', Mid T N M all plan w0 ρ0 listed r (i :: pend) fr' hp ρ a w ∧ K fr' := by
  obtain ⟨pre, hpre⟩ := h.suf
  have hp' := hplan
  rw [hpre] at hp'
  obtain ⟨q1, q2, q3, q4, q6⟩ := planOk_suffix hp'
  obtain ⟨o, d, pk⟩ := pureOk_of (q4 rfl)
  have hul : listed.getD i false = false := by
    cases hb : listed.getD i false with
    | false => rfl
    | true => exact absurd (by simp) (h.done i hb)
  simp only [pk.get, planPure] at he
  obtain ⟨b, he, hb⟩ := guardK_det he
  -- the new slots
  have main : ∀ v fr', d < N → (∀ t, Fr.find fr' t = if t = d then some v else Fr.find fr t) → (match b with | true => PureAt T fr hp o.op v | false => v = .tup []) →
      Mid T N M all plan w0 ρ0 listed r (i :: pend) fr' hp ρ a w := by
    intro v fr' hdN hf hv
    have hself : ∀ t ∈ readsOf all o, Fr.find fr' t = Fr.find fr t := by
      intro t ht
      rw [hf t, if_neg]
      intro e; subst e; exact pk.self ht
    refine ⟨h.sat, h.size, h.defers, h.hM, h.hρ, h.lsz, ⟨pre ++ [(false, i)], by rw [hpre]; simp⟩, ?_, ?_, ?_, ?_, ?_⟩
    · intro k hk g
      exact h.done k hk (by simp only [List.map_cons, List.mem_cons]; exact .inr g)
    · intro k hk hl
      rcases h.todo k hk hl with g | ⟨g, g'⟩
      · simp only [List.map_cons, List.mem_cons] at g
        rcases g with g | g
        · subst g
          refine .inr ⟨by simp, ?_⟩
          unfold againK
          simp only [pk.get, pk.dst]
          rw [guardK_congr (fun t ht => hself t (by simp [readsOf, ht]))]
          refine guardK_mono hb fun b' hb' => ?_
          subst hb'
          have hfd : Fr.find fr' d = some v := by rw [hf d, if_pos rfl]
          cases b' with
          | true =>
            simp only [getK_eq, hfd, Option.getD_some]
            unfold PureAt
            rw [evOp_congr (fun t ht => hself t (by simp [readsOf, ht]))]
            exact hv
          | false =>
            simp only [getK_eq, hfd, Option.getD_some]
            exact hv
        · exact .inl g
      · refine .inr ⟨by simp [g], ?_⟩
        have hki : k ≠ i := by
          intro e; subst e
          exact (h.pure k g).1 (by simp)
        obtain ⟨prek, rk, hk2⟩ := (h.pure k g).2
        have hok : ∃ ok, all[k]? = some ok := ⟨all[k], by simp [hk]⟩
        obtain ⟨ok, hok⟩ := hok
        have hoth := pk.others k ok hok hki
        -- 'i' comes behind 'k' in the plan
        have hir : i ∈ rk.map (·.2) := by
          have h1 : (k : Nat) ∉ ((false, i) :: r).map (·.2) := (h.pure k g).1
          have h2 : prek ++ (false, k) :: rk = pre ++ (false, i) :: r := by rw [← hk2, ← hpre]
          have : ∀ (prek pre : List (Bool × Nat)), prek ++ (false, k) :: rk = pre ++ (false, i) :: r → i ∈ rk.map (·.2) := by
            intro prek
            induction prek with
            | nil =>
              intro pre h2
              cases pre with
              | nil => simp at h2; exact absurd h2.1 hki
              | cons x pre =>
                simp at h2
                rw [h2.2]; simp
            | cons y prek ih =>
              intro pre h2
              cases pre with
              | nil =>
                simp at h2
                exfalso; apply h1
                rw [← h2.2]; simp
              | cons x pre => simp at h2; exact ih pre h2.2
          exact this prek pre h2
        have hne : i ∉ edges ok := plan_order hplan hk2 hpre hir hok
        rw [again_congr hok (fr := fr)]
        · exact g'
        · intro t ht
          rw [hf t, if_neg]
          intro e; subst e; exact hne (hoth.2 ht)
        · intro t ht
          rw [hf t, if_neg]
          intro e; subst e; exact hoth.1 ht
    · intro k hk
      simp only [List.mem_cons] at hk
      rcases hk with hk | hk
      · subst hk; exact ⟨q2, pre, r, hpre⟩
      · refine ⟨fun g => (h.pure k hk).1 (by simp only [List.map_cons, List.mem_cons]; exact .inr g), (h.pure k hk).2⟩
    · intro k hk ok dk h1 h2
      simp only [List.mem_cons] at hk
      rcases hk with hk | hk
      · subst hk; rw [pk.get] at h1; cases h1; rw [pk.dst] at h2; cases h2; exact hdN
      · exact h.lt k hk ok dk h1 h2
    · intro t v' hv' hn
      have htd : t ≠ d := by
        intro e; subst e
        exact hn i (by simp) hul o pk.get pk.dst
      rw [hf t, if_neg htd] at hv'
      exact h.frame t v' hv' fun k hk => hn k (by simp [hk])
  cases b with
  | true =>
    simp only at he
    obtain ⟨v, hv, he⟩ := he
    rw [pk.dst] at he
    obtain ⟨fr', h1, h2⟩ := dst_put he
    exact ⟨fr', main v fr' h2.1 h2.2 hv, h1⟩
  | false =>
    simp only at he
    rw [pk.dst] at he
    obtain ⟨fr', h1, h2⟩ := dst_put he
    exact ⟨fr', main (.tup []) fr' h2.1 h2.2 rfl, h1⟩

/-- ahead, up to an operation that waits for all it may come after -/
theorem Mid.aheads {listed : Array Bool} {hp : Hp} {ρ : Nat → Loc} {a : Act} {w : World} {K : Fr → Hp → Prop} : ∀ {rest : List (Bool × Nat)} {pend : List Nat} {fr : Fr},
    Mid T N M all plan w0 ρ0 listed rest pend fr hp ρ a w → evPlan (AC P) T N all rest pend fr hp K →
    ∃ rest' pend' fr', (rest' = [] ∨ ∃ c r, rest' = (true, c) :: r) ∧ Mid T N M all plan w0 ρ0 listed rest' pend' fr' hp ρ a w ∧ evPlan (AC P) T N all rest' pend' fr' hp K
  | [], pend, fr, h, he => ⟨[], pend, fr, .inl rfl, h, he⟩
  | (true, c) :: r, pend, fr, h, he => ⟨_, pend, fr, .inr ⟨c, r, rfl⟩, h, he⟩
  | (false, i) :: r, pend, fr, h, he => by
    simp only [evPlan] at he
    obtain ⟨fr', h1, h2⟩ := h.ahead hplan he
    exact Mid.aheads h1 h2

end
section
variable {P : Program} {T : Tab} {N M : Nat} {all : Array Oper} {plan : List (Bool × Nat)} {w0 : Base} {ρ0 : Nat → Loc}

theorem filter_lt {α : Type} {p q : α → Bool} {x : α} (h : ∀ y, p y = true → q y = true) (hq : q x = true) (hp : p x = false) : ∀ {l : List α}, x ∈ l → (l.filter p).length < (l.filter q).length
  | [], hx => by simp at hx
  | y :: l, hx => by
    have mono : ∀ l : List α, (l.filter p).length ≤ (l.filter q).length := by
      intro l
      induction l with
      | nil => simp
      | cons z l ih =>
        simp only [List.filter_cons]
        cases hz : p z with
        | true => simp [h z hz]; exact ih
        | false => simp only [Bool.false_eq_true, if_false]; split <;> (try simp only [List.length_cons]) <;> omega
    simp only [List.mem_cons] at hx
    simp only [List.filter_cons]
    rcases hx with hx | hx
    · subst hx
      simp only [hp, hq, Bool.false_eq_true, if_false, if_true, List.length_cons]
      have := mono l; omega
    · have ih := filter_lt h hq hp hx
      cases hz : p y with
      | true => simp [h y hz]; exact ih
      | false => simp only [Bool.false_eq_true, if_false]; split <;> (try simp only [List.length_cons]) <;> omega

theorem ready_mem {listed : Array Bool} {i : Nat} (hl : listed.size = all.size) : i ∈ Region.ready .any all listed ↔ ∃ o, all[i]? = some o ∧ listed.getD i false = false ∧ ∀ e ∈ edges o, listed.getD e false = true := by
  simp only [Region.ready, List.mem_filter, List.mem_range, Bool.and_eq_true, Bool.not_eq_true']
  constructor
  · rintro ⟨h1, h2, h3⟩
    have ho : all[i]? = some all[i] := by simp [h1]
    rw [ho] at h3
    simp only [Option.map_some, Option.getD_some, Array.all_eq_true_iff_forall_mem, Bool.or_eq_true, Bool.not_eq_true'] at h3
    refine ⟨all[i], ho, ?_, ?_⟩
    · have hi : i < listed.size := by omega
      simp only [Array.getD, hi] at h2 ⊢
      simpa using h2
    · intro e he
      simp only [edges, List.mem_map, List.mem_filter, Array.mem_toList_iff] at he
      obtain ⟨x, ⟨hx1, hx2⟩, rfl⟩ := he
      rcases h3 x hx1 with g | g
      · rw [hx2] at g; cases g
      · exact g
  · rintro ⟨o, h1, h2, h3⟩
    have hi := get_lt h1
    refine ⟨hi, ?_, ?_⟩
    · have hi' : i < listed.size := by omega
      simp only [Array.getD, hi'] at h2 ⊢
      simpa using h2
    · rw [h1]
      simp only [Option.map_some, Option.getD_some, Array.all_eq_true_iff_forall_mem, Bool.or_eq_true, Bool.not_eq_true']
      intro x hx
      cases hb : Region.binds .any x with
      | false => exact .inl rfl
      | true => exact .inr (h3 x.on (by simp only [edges, List.mem_map, List.mem_filter, Array.mem_toList_iff]; exact ⟨x, ⟨hx, hb⟩, rfl⟩))

theorem all_listed {listed : Array Bool} (hl : listed.size = all.size) (hcov : coverB all plan = true) (h : Region.ready .any all listed = []) : ∀ i, i < all.size → listed.getD i false = true := by
  intro i
  induction i using Nat.strongRecOn with
  | _ i ih =>
    intro hi
    cases hb : listed.getD i false with
    | true => rfl
    | false =>
      exfalso
      have ho : all[i]? = some all[i] := by simp [hi]
      simp only [coverB, List.all_eq_true, List.mem_range, Bool.and_eq_true] at hcov
      have h2 := (hcov i hi).2
      have : i ∈ Region.ready .any all listed := by
        rw [ready_mem hl]
        refine ⟨all[i], ho, hb, fun e he => ?_⟩
        rw [edgesB_of ho] at h2
        have he' : e < i := by simpa using h2 e he
        exact ih e he' (by omega)
      rw [h] at this; simp at this

theorem put_getD (a : Act) (d : Option Tmp) (v : Value) (t : Nat) (h : d ≠ some t) : (a.put d v).tmps.getD t undef = a.tmps.getD t undef := by
  cases d with
  | none => rfl
  | some d =>
    have : d ≠ t := fun e => h (by rw [e])
    simp [Act.put, Array.getD_eq_getD_getElem?, Array.getElem?_setIfInBounds, this]
theorem put_self (a : Act) (d : Tmp) (v : Value) (h : d < a.tmps.size) : (a.put (some d) v).tmps.getD d undef = v := by
  simp [Act.put, Array.getD_eq_getD_getElem?, Array.getElem?_setIfInBounds, h]

theorem listed_set {listed : Array Bool} {i k : Nat} (hi : i < listed.size) : (listed.setIfInBounds i true).getD k false = if k = i then true else listed.getD k false := by
  simp only [Array.getD_eq_getD_getElem?, Array.getElem?_setIfInBounds]
  by_cases h : i = k
  · subst h; simp [hi]
  · rw [if_neg h, if_neg (fun e => h e.symm)]

theorem Mid.any (hT : TOk P T) (hplan : planOkW all plan = true) (hbars : barsB all plan = true) {Q : Exit → Act → World → Prop} {K : Fr → Hp → Prop} (hcov : coverB all plan = true)
    (hQ : ∀ a w fr hp ρ, K fr hp → HSat w0 ρ hp w → FSat ρ hp.length fr a.tmps → a.tmps.size = N → a.defers = w0.ds → M ≤ hp.length → (∀ b, b < M → ρ b = ρ0 b) → Q .normal a w) :
    ∀ (fuel : Nat) (listed : Array Bool) (rest : List (Bool × Nat)) (pend : List Nat) (fr : Fr) (hp : Hp) (ρ : Nat → Loc) (a : Act) (w : World),
      ((List.range all.size).filter fun i => !listed.getD i false).length ≤ fuel → (rest = [] ∨ ∃ c r, rest = (true, c) :: r) →
      Mid T N M all plan w0 ρ0 listed rest pend fr hp ρ a w → evPlan (AC P) T N all rest pend fr hp K → wpAny P .any all Q fuel listed a w := by
  -- when all is done
  have fin : ∀ (listed : Array Bool) (rest : List (Bool × Nat)) (pend : List Nat) (fr : Fr) (hp : Hp) (ρ : Nat → Loc) (a : Act) (w : World),
      (∀ i, i < all.size → listed.getD i false = true) → Mid T N M all plan w0 ρ0 listed rest pend fr hp ρ a w → evPlan (AC P) T N all rest pend fr hp K → Q .normal a w := by
    intro listed rest pend fr hp ρ a w hall h he
    cases rest with
    | nil =>
      refine hQ a w fr hp ρ he h.sat ?_ h.size h.defers h.hM h.hρ
      intro t v hv
      refine h.frame t v hv fun i hi hl o ho => ?_
      rw [hall i (get_lt ho)] at hl; cases hl
    | cons x r =>
      exfalso
      obtain ⟨pre, hpre⟩ := h.suf
      obtain ⟨k, i⟩ := x
      have hp' := hplan
      rw [hpre] at hp'
      obtain ⟨q1, _⟩ := planOk_suffix hp'
      exact h.done i (hall i q1) (by simp)
  intro fuel
  induction fuel with
  | zero =>
    intro listed rest pend fr hp ρ a w hc hh h he
    have hall : ∀ i, i < all.size → listed.getD i false = true := by
      intro i hi
      cases hb : listed.getD i false with
      | true => rfl
      | false =>
        have : i ∈ (List.range all.size).filter fun i => !listed.getD i false := by simp [hi]; simpa using hb
        rw [List.length_eq_zero_iff.1 (Nat.le_zero.1 hc)] at this
        simp at this
    refine ⟨?_, fin listed rest pend fr hp ρ a w hall h he⟩
    cases hr : Region.ready .any all listed with
    | nil => rfl
    | cons i l =>
      have : i ∈ Region.ready .any all listed := by rw [hr]; simp
      rw [ready_mem h.lsz] at this
      obtain ⟨o, h1, h2, _⟩ := this
      rw [hall i (get_lt h1)] at h2; cases h2
  | succ fuel ih =>
    intro listed rest pend fr hp ρ a w hc hh h he
    refine ⟨fun hr => fin listed rest pend fr hp ρ a w (all_listed h.lsz hcov hr) h he, fun i hi => ?_⟩
    rw [ready_mem h.lsz] at hi
    obtain ⟨o, ho, hul, hed⟩ := hi
    have hilt := get_lt ho
    have hlsz : i < listed.size := by rw [h.lsz]; exact hilt
    have hcnt : ((List.range all.size).filter fun k => !(listed.setIfInBounds i true).getD k false).length ≤ fuel := by
      have := filter_lt (p := fun k => !(listed.setIfInBounds i true).getD k false) (q := fun k => !listed.getD k false) (x := i) (l := List.range all.size)
        (by intro y hy; simp only [listed_set hlsz] at hy; split at hy <;> simp_all) (by simp [hul]) (by simp [listed_set hlsz]) (by simp [hilt])
      omega
    -- the slots that are what they are told to be
    let f : Nat → Bool := fun t => pend.any fun k => !listed.getD k false && (match all[k]? with | some ok => (match ok.dst with | some d => Nat.beq d t | none => false) | none => false)
    have hf : ∀ t, f t = false → ∀ k ∈ pend, listed.getD k false = false → ∀ ok, all[k]? = some ok → ok.dst ≠ some t := by
      intro t ht k hk hl ok hok hd
      simp only [f, List.any_eq_false] at ht
      have := ht k hk
      simp [hl, hok, hd] at this
    have hFS : FSat ρ hp.length (hide f fr) a.tmps := by
      intro t v hv
      rw [hide_find] at hv
      split at hv
      · cases hv
      · rename_i hft
        exact h.frame t v hv (hf t (by simpa using hft))
    have hreads : ∀ t ∈ readsOf all o, Fr.find (hide f fr) t = Fr.find fr t := by
      intro t ht
      rw [hide_find, if_neg]
      intro hft
      simp only [f, List.any_eq_true, Bool.and_eq_true, Bool.not_eq_true'] at hft
      obtain ⟨k, hk, hl, hd⟩ := hft
      split at hd
      case h_2 => cases hd
      rename_i ok hok
      split at hd
      case h_2 => cases hd
      rename_i d hdd
      have := Nat.eq_of_beq_eq_true hd
      subst this
      obtain ⟨prek, rk, hk2⟩ := (h.pure k hk).2
      have hp' := hplan
      rw [hk2] at hp'
      obtain ⟨_, _, _, q4, _⟩ := planOk_suffix hp'
      obtain ⟨ok', d', pk⟩ := pureOk_of (q4 rfl)
      have e1 := pk.get
      rw [hok] at e1; cases e1
      have e2 := pk.dst
      rw [hdd] at e2; cases e2
      by_cases hki : k = i
      · subst hki; rw [ho] at hok; cases hok; exact pk.self ht
      · have := (pk.others i o ho (fun e => hki e.symm)).2 ht
        rw [hed k this] at hl; cases hl
    unfold wpOp
    simp only [ho]
    by_cases hin : i ∈ rest.map (·.2)
    · -- the operation that the evaluator waits at
      rcases hh with rfl | ⟨c, r, rfl⟩
      · simp at hin
      obtain ⟨pre, hpre⟩ := h.suf
      have hp' := hplan
      rw [hpre] at hp'
      obtain ⟨q1, q2, q3, q4, q6⟩ := planOk_suffix hp'
      have q5 := bars_suffix (hpre ▸ hbars)
      have hic : i = c := by
        simp only [List.map_cons, List.mem_cons] at hin
        rcases hin with hin | hin
        · exact hin
        · exfalso
          simp only [List.mem_map] at hin
          obtain ⟨x, hx, hxi⟩ := hin
          obtain ⟨y, hy, hy'⟩ := q5 x hx
          rw [hxi, edgesB_of ho] at hy
          exact h.done y (hed y hy) (by simpa using hy')
      subst hic
      simp only [evPlan, ho, planBar] at he
      obtain ⟨b, he, hb⟩ := guardK_det he
      rw [← guardK_congr (fun t ht => hreads t (by simp [readsOf, ht]))] at hb
      rw [guardK_wanted hFS hb]
      -- behind it
      have next : ∀ v cv hp' ρ' w', VR ρ' hp'.length v cv → HSat w0 ρ' hp' w' → hp.length ≤ hp'.length → (∀ b, b < hp.length → ρ' b = ρ b) →
          (dstK o.dst v N fr fun fr' => againsK T all fr' hp' (without (edges o) pend) ∧ evPlan (AC P) T N all r (without (edges o) pend) fr' hp' K) →
          wpAny P .any all Q fuel (listed.setIfInBounds i true) (a.put o.dst cv) w' := by
        intro v cv hp' ρ' w' k1 k2 k3 k4 hd
        obtain ⟨fr', ⟨hag, he'⟩, hfr⟩ := dst_put hd
        have hagain : ∀ (l : List Nat), againsK T all fr' hp' l → ∀ k ∈ l, againK T all fr' hp' k := by
          intro l
          induction l with
          | nil => intro _ k hk; simp at hk
          | cons x l ih =>
            intro h k hk
            simp only [againsK] at h
            simp only [List.mem_cons] at hk
            rcases hk with rfl | hk
            · exact h.1
            · exact ih h.2 k hk
        have hmid : Mid T N M all plan w0 ρ0 (listed.setIfInBounds i true) r (without (edges o) pend) fr' hp' ρ' (a.put o.dst cv) w' := by
          refine ⟨k2, by rw [put_size]; exact h.size, by rw [put_defers]; exact h.defers, by have := h.hM; omega, fun b hb => by rw [k4 b (by have := h.hM; omega)]; exact h.hρ b hb, by simp [h.lsz], ⟨pre ++ [(true, i)], by rw [hpre]; simp⟩, ?_, ?_, ?_, ?_, ?_⟩
          · intro k hk g
            rw [listed_set hlsz] at hk
            split at hk
            · subst k; exact q2 g
            · exact h.done k hk (by simp only [List.map_cons, List.mem_cons]; exact .inr g)
          · intro k hk hl
            rw [listed_set hlsz] at hl
            split at hl
            · cases hl
            · rename_i hki
              rcases h.todo k hk hl with g | ⟨g, g'⟩
              · simp only [List.map_cons, List.mem_cons] at g
                rcases g with g | g
                · exact absurd g hki
                · exact .inl g
              · have hm : k ∈ without (edges o) pend := by
                  rw [without_mem]
                  refine ⟨g, fun e => ?_⟩
                  rw [hed k e] at hl; cases hl
                exact .inr ⟨hm, hagain _ hag k hm⟩
          · intro k hk
            rw [without_mem] at hk
            refine ⟨fun g => (h.pure k hk.1).1 (by simp only [List.map_cons, List.mem_cons]; exact .inr g), (h.pure k hk.1).2⟩
          · intro k hk
            rw [without_mem] at hk
            exact h.lt k hk.1
          · intro t v' hv' hn
            cases hdst : o.dst with
            | none =>
              rw [hdst] at hfr
              simp only [PutIs] at hfr
              subst hfr
              refine VR_mono k3 k4 _ _ (h.frame t v' hv' fun k hk hl => ?_)
              have hki : k ≠ i := by intro e; subst e; exact (h.pure k hk).1 (by simp)
              refine hn k (by rw [without_mem]; exact ⟨hk, fun e => by rw [hed k e] at hl; cases hl⟩) (by rw [listed_set hlsz, if_neg hki]; exact hl)
            | some d =>
              rw [hdst] at hfr
              simp only [PutIs] at hfr
              rw [hfr.2 t] at hv'
              by_cases htd : t = d
              · subst htd
                rw [if_pos rfl] at hv'; cases hv'
                rw [put_self _ _ _ (by rw [h.size]; exact hfr.1)]
                exact k1
              · rw [if_neg htd] at hv'
                rw [put_getD _ _ _ _ (by simp; exact fun e => htd e.symm)]
                refine VR_mono k3 k4 _ _ (h.frame t v' hv' fun k hk hl => ?_)
                have hki : k ≠ i := by intro e; subst e; exact (h.pure k hk).1 (by simp)
                refine hn k (by rw [without_mem]; exact ⟨hk, fun e => by rw [hed k e] at hl; cases hl⟩) (by rw [listed_set hlsz, if_neg hki]; exact hl)
        obtain ⟨rest', pend', fr'', g1, g2, g3⟩ := Mid.aheads (P := P) hplan hmid he'
        exact ih _ rest' pend' fr'' hp' ρ' _ w' hcnt g1 g2 g3
      cases b with
      | true =>
        simp only [if_true]
        simp only at he
        rw [← evOper_congr (fun t ht => hreads t (by simp [readsOf, ht]))] at he
        exact .inl (evOper_sound hT h.sat hFS he fun v cv hp' ρ' w' k0 k1 k2 k3 k4 => next v cv hp' ρ' w' k1 k2 k3 k4 k0)
      | false =>
        simp only [Bool.false_eq_true, if_false]
        simp only at he
        exact next (.tup []) undef hp ρ w (by simp only [VR, VRs]; exact ⟨[], rfl, rfl⟩) h.sat (Nat.le_refl _) (fun _ _ => rfl) he
    · -- one that has been told ahead
      have htd := (h.todo i hilt hul).resolve_left hin
      obtain ⟨hip, hag⟩ := htd
      obtain ⟨prei, ri, hi2⟩ := (h.pure i hip).2
      have hp' := hplan
      rw [hi2] at hp'
      obtain ⟨_, _, _, q4, _⟩ := planOk_suffix hp'
      obtain ⟨o', d, pk⟩ := pureOk_of (q4 rfl)
      have e1 := pk.get
      rw [ho] at e1; cases e1
      unfold againK at hag
      simp only [ho, pk.dst] at hag
      obtain ⟨b, hag, hb⟩ := guardK_det hag
      rw [← guardK_congr (fun t ht => hreads t (by simp [readsOf, ht]))] at hb
      rw [guardK_wanted hFS hb]
      have next : ∀ v cv ρ' w', (∀ v', Fr.find fr d = some v' → v' = v) → VR ρ' hp.length v cv → HSat w0 ρ' hp w' → (∀ b, b < hp.length → ρ' b = ρ b) → wpAny P .any all Q fuel (listed.setIfInBounds i true) (a.put o.dst cv) w' := by
        intro v cv ρ' w' k0 k1 k2 k4
        have hmid : Mid T N M all plan w0 ρ0 (listed.setIfInBounds i true) rest pend fr hp ρ' (a.put o.dst cv) w' := by
          refine ⟨k2, by rw [put_size]; exact h.size, by rw [put_defers]; exact h.defers, h.hM, fun b hb => by rw [k4 b (by have := h.hM; omega)]; exact h.hρ b hb, by simp [h.lsz], h.suf, ?_, ?_, h.pure, h.lt, ?_⟩
          · intro k hk
            rw [listed_set hlsz] at hk
            split at hk
            · subst k; exact hin
            · exact h.done k hk
          · intro k hk hl
            rw [listed_set hlsz] at hl
            split at hl
            · cases hl
            · exact h.todo k hk hl
          · intro t v' hv' hn
            rw [pk.dst]
            by_cases htd : t = d
            · subst htd
              rw [k0 v' hv']
              rw [put_self _ _ _ (by rw [h.size]; exact h.lt i hip o t ho pk.dst)]; exact k1
            · rw [put_getD _ _ _ _ (by simp; exact fun e => htd e.symm)]
              refine VR_mono (Nat.le_refl _) k4 _ _ (h.frame t v' hv' fun k hk hl ok hok => ?_)
              by_cases hki : k = i
              · subst hki
                rw [ho] at hok; cases hok
                rw [pk.dst]; simp; exact fun e => htd e.symm
              · exact hn k hk (by rw [listed_set hlsz, if_neg hki]; exact hl) ok hok
        exact ih _ rest pend fr hp ρ' _ w' hcnt hh hmid he
      cases b with
      | true =>
        simp only [if_true]
        simp only at hag
        rw [getK_eq] at hag
        unfold PureAt at hag
        rw [← evOp_congr (fun t ht => hreads t (by simp [readsOf, ht]))] at hag
        refine .inl (evOp_wp hT h.sat hFS hag ?_)
        rintro v cv hp' ρ' w' ⟨rfl, rfl⟩ k1 k2 k3 k4
        exact next _ cv ρ' w' (fun v' hv' => by rw [hv']; rfl) k1 k2 k4
      | false =>
        simp only [Bool.false_eq_true, if_false]
        simp only at hag
        rw [getK_eq] at hag
        exact next (.tup []) undef ρ w (fun v' hv' => by rw [hv'] at hag; simpa using hag) (by simp only [VR, VRs]; exact ⟨[], rfl, rfl⟩) h.sat (fun _ _ => rfl)

/-- a region that draws its order, told along a plan -/
theorem AW.draw {id : Nat} {ops : Array Oper} {keep : Nat → Bool} {Kn E G R fr hp} (plan : List (Bool × Nat)) (hm : P.follows .mixedOrders = true) (hT : TOk P T) (hplan : planOkB ops plan = true) (hcov : coverB ops plan = true)
    (h : evPlan (AC P) T N ops plan [] fr hp fun fr' hp' => keepK keep fr' fun fr'' => Kn fr'' hp') : AW P N M (.region id ops true) Kn E G R fr hp := by
  rw [AW_iff]
  intro w0 ρ a w h1 h2 h3 h4 h5
  unfold planOkB at hplan
  rw [Bool.and_eq_true] at hplan
  obtain ⟨hplan, hbars⟩ := hplan
  refine wp_region_any hm ?_
  have hs : HSat w0 ρ hp ({ w with drawn := w.drawn + 1 } : World) := h1.congr rfl rfl rfl rfl
  have hcov' := hcov
  simp only [coverB, List.all_eq_true, List.mem_range, Bool.and_eq_true] at hcov'
  have h0 : ∀ i, (Array.replicate ops.size false).getD i false = false := by
    intro i
    rw [Array.getD_eq_getD_getElem?, Array.getElem?_replicate]
    split <;> rfl
  have hmid : Mid T N M ops plan w0 ρ (Array.replicate ops.size false) plan [] fr hp ρ a ({ w with drawn := w.drawn + 1 } : World) := by
    refine ⟨hs, h3, h4, h5, fun _ _ => rfl, by simp, ⟨[], rfl⟩, ?_, ?_, ?_, ?_, ?_⟩
    · intro i hi; rw [h0] at hi; cases hi
    · intro i hi _; exact .inl (hasNat_iff.1 (hcov' i hi).1)
    · intro i hi; simp at hi
    · intro i hi; simp at hi
    · intro t v hv _; exact h2 t v hv
  obtain ⟨rest', pend', fr', g1, g2, g3⟩ := Mid.aheads (P := P) hplan hmid h
  refine Mid.any hT hplan hbars hcov ?_ _ _ rest' pend' fr' hp ρ a _ ?_ g1 g2 g3
  · intro a w fr hp ρ' k1 k2 k3 k4 k5 k6 k7
    obtain ⟨fr'', k8, k9⟩ := keepK_sound k3 k1
    exact ⟨fr'', hp, ρ', k8, k2, k9, k4, k5, k6, k7⟩
  · exact Nat.le_trans (List.length_filter_le _ _) (by simp)
end
end Go.Aw
end

section
/-
  AwQ: a small region that draws its order, walked in every order. Own work.
-/
set_option linter.unusedVariables false
set_option linter.unusedSimpArgs false
namespace Go.Aw

@[irreducible] def Both (p q : Prop) : Prop := p ∧ q
theorem Both.mk {p q : Prop} (h : p) (h' : q) : Both p q := by unfold Both; exact ⟨h, h'⟩
theorem Both.out {p q : Prop} (h : Both p q) : p ∧ q := by unfold Both at h; exact h
section
variable {P : Program} {T : Tab} {N M : Nat}
end
end Go.Aw
end

section
/-
  AwR: a region that draws its order, in which some operations that turn the memory may come in either order: told along a tree of plans. Own work.
-/
set_option linter.unusedVariables false
set_option linter.unusedSimpArgs false
namespace Go.Aw

inductive PT where
  | fin
  | pure (i : Nat) (r : PT)
  | one (c : Nat) (r : PT)
  | alt (c : Nat) (r o : PT)
def PT.path : PT → List (Bool × Nat)
  | .fin => []
  | .pure i r => (false, i) :: r.path
  | .one c r => (true, c) :: r.path
  | .alt c r _ => (true, c) :: r.path
def PT.choices : PT → List Nat
  | .one c _ => [c]
  | .alt c _ o => c :: o.choices
  | _ => []
def PT.isBar : PT → Bool
  | .one _ _ => true
  | .alt _ _ _ => true
  | _ => false
def sameB (a b : List Nat) : Bool := a.all (fun x => hasNat x b) && b.all (fun x => hasNat x a)
def nodeB (all : Array Oper) (k : Bool) (i : Nat) (r : List (Bool × Nat)) : Bool :=
  Nat.blt i all.size && !hasNat i (r.map (·.2)) && (edgesB all i).all (fun e => !hasNat e (i :: r.map (·.2))) && (k || pureOkB all i)
/-- each that is left may come first, or waits for one that is left -/
def coverT (all : Array Oper) (cs : List Nat) (p : List (Bool × Nat)) : Bool := p.all fun x => hasNat x.2 cs || (edgesB all x.2).any fun y => hasNat y (p.map (·.2))
def PT.okB (all : Array Oper) : PT → Bool → Bool
  | .fin, _ => true
  | .pure i r, _ => nodeB all false i r.path && r.okB all true
  | .one c r, top => (!top || coverT all [c] ((true, c) :: r.path)) && nodeB all true c r.path && r.okB all true
  | .alt c r o, top => (!top || coverT all (c :: o.choices) ((true, c) :: r.path)) && nodeB all true c r.path && r.okB all true && o.isBar && sameB (c :: r.path.map (·.2)) (o.path.map (·.2)) && o.okB all false
def evPT (A : CallsP) (T : Tab) (N : Nat) (all : Array Oper) : PT → List Nat → Fr → Hp → (Fr → Hp → Prop) → Prop
  | .fin, _, fr, hp, K => K fr hp
  | .pure i r, pend, fr, hp, K => match all[i]? with
    | some o => planPure T N all o fr hp fun fr' => evPT A T N all r (i :: pend) fr' hp K
    | none => False
  | .one c r, pend, fr, hp, K => match all[c]? with
    | some o => planBar A T N all o fr hp fun fr' hp' => againsK T all fr' hp' (without (edges o) pend) ∧ evPT A T N all r (without (edges o) pend) fr' hp' K
    | none => False
  | .alt c r o', pend, fr, hp, K => Both (match all[c]? with
    | some o => planBar A T N all o fr hp fun fr' hp' => againsK T all fr' hp' (without (edges o) pend) ∧ evPT A T N all r (without (edges o) pend) fr' hp' K
    | none => False) (evPT A T N all o' pend fr hp K)

theorem sameB_iff {a b : List Nat} (h : sameB a b = true) : ∀ x, x ∈ a ↔ x ∈ b := by
  simp only [sameB, Bool.and_eq_true, List.all_eq_true] at h
  exact fun x => ⟨fun g => hasNat_iff.1 (h.1 x g), fun g => hasNat_iff.1 (h.2 x g)⟩
theorem node_ok {all : Array Oper} {k : Bool} {i : Nat} {r : List (Bool × Nat)} (h : nodeB all k i r = true) (h2 : planOkW all r = true) : planOkW all ((k, i) :: r) = true := by
  simp only [nodeB, Bool.and_eq_true] at h
  simp only [planOkW, Bool.and_eq_true]
  exact ⟨⟨⟨⟨h.1.1.1, h.1.1.2⟩, h.1.2⟩, h.2⟩, h2⟩
theorem PT.path_ok {all : Array Oper} : ∀ {t : PT} {top : Bool}, t.okB all top = true → planOkW all t.path = true
  | .fin, _, _ => rfl
  | .pure i r, _, h => by
    simp only [PT.okB, Bool.and_eq_true] at h
    exact node_ok h.1 (PT.path_ok h.2)
  | .one c r, _, h => by
    simp only [PT.okB, Bool.and_eq_true] at h
    exact node_ok h.1.2 (PT.path_ok h.2)
  | .alt c r o, _, h => by
    simp only [PT.okB, Bool.and_eq_true] at h
    exact node_ok h.1.1.1.1.2 (PT.path_ok h.1.1.1.2)
theorem PT.cover {all : Array Oper} {t : PT} (h : t.okB all true = true) (hb : t.isBar = true) : coverT all t.choices t.path = true := by
  cases t with
  | fin => cases hb
  | pure i r => cases hb
  | one c r =>
    simp only [PT.okB, Bool.and_eq_true, Bool.not_true, Bool.false_or] at h
    exact h.1.1
  | alt c r o =>
    simp only [PT.okB, Bool.and_eq_true, Bool.not_true, Bool.false_or] at h
    exact h.1.1.1.1.1
/-- one of the choices, and what is behind it -/
theorem PT.choose {all : Array Oper} {A : CallsP} {T : Tab} {N : Nat} {c : Nat} : ∀ {t : PT} {top : Bool} {pend : List Nat} {fr : Fr} {hp : Hp} {K : Fr → Hp → Prop}, t.okB all top = true → evPT A T N all t pend fr hp K → c ∈ t.choices →
    ∃ r : PT, planOkW all ((true, c) :: r.path) = true ∧ r.okB all true = true ∧ (∀ x, x ∈ c :: r.path.map (·.2) ↔ x ∈ t.path.map (·.2)) ∧ (match all[c]? with
      | some o => planBar A T N all o fr hp fun fr' hp' => againsK T all fr' hp' (without (edges o) pend) ∧ evPT A T N all r (without (edges o) pend) fr' hp' K
      | none => False)
  | .fin, _, _, _, _, _, _, _, hc => by cases hc
  | .pure i r, _, _, _, _, _, _, _, hc => by cases hc
  | .one c' r, _, _, _, _, _, h, he, hc => by
    simp only [PT.choices, List.mem_singleton] at hc
    subst hc
    simp only [PT.okB, Bool.and_eq_true] at h
    exact ⟨r, node_ok h.1.2 (PT.path_ok h.2), h.2, fun x => by simp [PT.path], he⟩
  | .alt c' r o, _, _, _, _, _, h, he, hc => by
    simp only [PT.okB, Bool.and_eq_true] at h
    obtain ⟨⟨⟨⟨⟨h1, h2⟩, h3⟩, h4⟩, h5⟩, h6⟩ := h
    have he := Both.out he
    simp only [PT.choices, List.mem_cons] at hc
    rcases hc with rfl | hc
    · exact ⟨r, node_ok h2 (PT.path_ok h3), h3, fun x => by simp [PT.path], he.1⟩
    · obtain ⟨r', g1, g2, g3, g4⟩ := PT.choose h6 he.2 hc
      refine ⟨r', g1, g2, fun x => ?_, g4⟩
      rw [g3]
      exact (sameB_iff h5 x).symm.trans (by simp [PT.path])

theorem planOkW_swap {all : Array Oper} : ∀ {pre r r' : List (Bool × Nat)}, planOkW all (pre ++ r) = true → planOkW all r' = true → (∀ x, x ∈ r.map (·.2) ↔ x ∈ r'.map (·.2)) → planOkW all (pre ++ r') = true
  | [], r, r', _, h, _ => h
  | (k, i) :: pre, r, r', h, h', hx => by
    have key : ∀ y, hasNat y ((pre ++ r').map (·.2)) = hasNat y ((pre ++ r).map (·.2)) := by
      intro y
      rw [Bool.eq_iff_iff, hasNat_iff, hasNat_iff, List.map_append, List.map_append, List.mem_append, List.mem_append, hx y]
    simp only [List.cons_append, planOkW, Bool.and_eq_true] at h ⊢
    obtain ⟨⟨⟨⟨h1, h2⟩, h3⟩, h4⟩, h5⟩ := h
    refine ⟨⟨⟨⟨h1, by rw [key]; exact h2⟩, ?_⟩, h4⟩, planOkW_swap h5 h' hx⟩
    rw [List.all_eq_true] at h3 ⊢
    intro e he
    have := h3 e he
    simp only [hasNat, key] at this ⊢
    exact this

section
variable {P : Program} {T : Tab} {N M : Nat} {all : Array Oper} {w0 : Base} {ρ0 : Nat → Loc}

/-- the way on is told otherwise: the same operations are left -/
theorem Mid.swap {plan pre r r' : List (Bool × Nat)} {listed : Array Bool} {pend : List Nat} {fr : Fr} {hp : Hp} {ρ : Nat → Loc} {a : Act} {w : World} (hplan : plan = pre ++ r)
    (h : Mid T N M all plan w0 ρ0 listed r pend fr hp ρ a w) (hx : ∀ x, x ∈ r'.map (·.2) ↔ x ∈ r.map (·.2)) : Mid T N M all (pre ++ r') w0 ρ0 listed r' pend fr hp ρ a w := by
  refine ⟨h.sat, h.size, h.defers, h.hM, h.hρ, h.lsz, ⟨pre, rfl⟩, fun i hi g => h.done i hi ((hx i).1 g), fun i hi hl => ?_, fun i hi => ?_, h.lt, h.frame⟩
  · rcases h.todo i hi hl with g | g
    · exact .inl ((hx i).2 g)
    · exact .inr g
  · obtain ⟨g1, p, q, g2⟩ := h.pure i hi
    refine ⟨fun g => g1 ((hx i).1 g), ?_⟩
    have : ∀ (pre p : List (Bool × Nat)), pre ++ r = p ++ (false, i) :: q → ∃ p' q', pre ++ r' = p' ++ (false, i) :: q' := by
      intro pre
      induction pre with
      | nil =>
        intro p e
        exfalso
        apply g1
        simp only [List.nil_append] at e
        rw [e]; simp
      | cons y pre ih =>
        intro p e
        cases p with
        | nil =>
          simp only [List.cons_append, List.nil_append, List.cons.injEq] at e
          exact ⟨[], pre ++ r', by simp [e.1]⟩
        | cons z p =>
          simp only [List.cons_append, List.cons.injEq] at e
          obtain ⟨p', q', e'⟩ := ih p e.2
          exact ⟨y :: p', q', by simp [e']⟩
    exact this pre p (hplan ▸ g2)

/-- ahead, up to an operation that turns the memory -/
theorem Mid.aheadsT {plan : List (Bool × Nat)} (hplan : planOkW all plan = true) {listed : Array Bool} {hp : Hp} {ρ : Nat → Loc} {a : Act} {w : World} {K : Fr → Hp → Prop} : ∀ {t : PT} {pend : List Nat} {fr : Fr}, t.okB all true = true →
    Mid T N M all plan w0 ρ0 listed t.path pend fr hp ρ a w → evPT (AC P) T N all t pend fr hp K →
    ∃ (t' : PT) (pend' : List Nat) (fr' : Fr), (t' = .fin ∨ t'.isBar = true) ∧ t'.okB all true = true ∧ Mid T N M all plan w0 ρ0 listed t'.path pend' fr' hp ρ a w ∧ evPT (AC P) T N all t' pend' fr' hp K
  | .fin, pend, fr, ho, h, he => ⟨.fin, pend, fr, .inl rfl, rfl, h, he⟩
  | .one c r, pend, fr, ho, h, he => ⟨.one c r, pend, fr, .inr rfl, ho, h, he⟩
  | .alt c r o, pend, fr, ho, h, he => ⟨.alt c r o, pend, fr, .inr rfl, ho, h, he⟩
  | .pure i r, pend, fr, ho, h, he => by
    simp only [PT.okB, Bool.and_eq_true] at ho
    simp only [evPT] at he
    obtain ⟨fr', h1, h2⟩ := Mid.ahead hplan h he
    exact Mid.aheadsT hplan ho.2 h1 h2

theorem all_listedT {listed : Array Bool} (hl : listed.size = all.size) (hord : ∀ i, i < all.size → ∀ e ∈ edgesB all i, e < i) (h : Region.ready .any all listed = []) : ∀ i, i < all.size → listed.getD i false = true := by
  intro i
  induction i using Nat.strongRecOn with
  | _ i ih =>
    intro hi
    cases hb : listed.getD i false with
    | true => rfl
    | false =>
      exfalso
      have ho : all[i]? = some all[i] := by simp [hi]
      have h2 := hord i hi
      have : i ∈ Region.ready .any all listed := by
        rw [ready_mem hl]
        refine ⟨all[i], ho, hb, fun e he => ?_⟩
        rw [edgesB_of ho] at h2
        have he' : e < i := h2 e he
        exact ih e he' (by omega)
      rw [h] at this; simp at this

theorem Mid.anyT (hT : TOk P T) {Q : Exit → Act → World → Prop} {K : Fr → Hp → Prop} (hord : ∀ i, i < all.size → ∀ e ∈ edgesB all i, e < i)
    (hQ : ∀ a w fr hp ρ, K fr hp → HSat w0 ρ hp w → FSat ρ hp.length fr a.tmps → a.tmps.size = N → a.defers = w0.ds → M ≤ hp.length → (∀ b, b < M → ρ b = ρ0 b) → Q .normal a w) :
    ∀ (fuel : Nat) (listed : Array Bool) (plan : List (Bool × Nat)) (t : PT) (pend : List Nat) (fr : Fr) (hp : Hp) (ρ : Nat → Loc) (a : Act) (w : World),
      ((List.range all.size).filter fun i => !listed.getD i false).length ≤ fuel → (t = .fin ∨ t.isBar = true) → planOkW all plan = true → t.okB all true = true →
      Mid T N M all plan w0 ρ0 listed t.path pend fr hp ρ a w → evPT (AC P) T N all t pend fr hp K → wpAny P .any all Q fuel listed a w := by
  -- when all is done
  have fin : ∀ (listed : Array Bool) (plan : List (Bool × Nat)) (t : PT) (pend : List Nat) (fr : Fr) (hp : Hp) (ρ : Nat → Loc) (a : Act) (w : World), (t = .fin ∨ t.isBar = true) → planOkW all plan = true →
      (∀ i, i < all.size → listed.getD i false = true) → Mid T N M all plan w0 ρ0 listed t.path pend fr hp ρ a w → evPT (AC P) T N all t pend fr hp K → Q .normal a w := by
    intro listed plan t pend fr hp ρ a w hh hplan hall h he
    have hx : ∀ k i r, t.path = (k, i) :: r → False := by
      intro k i r e
      rw [e] at h
      obtain ⟨pre, hpre⟩ := h.suf
      have hp' := hplan
      rw [hpre] at hp'
      obtain ⟨q1, _⟩ := planOk_suffix hp'
      exact h.done i (hall i q1) (by simp)
    cases t with
    | fin =>
      refine hQ a w fr hp ρ he h.sat ?_ h.size h.defers h.hM h.hρ
      intro t v hv
      refine h.frame t v hv fun i hi hl o ho => ?_
      rw [hall i (get_lt ho)] at hl; cases hl
    | pure i r => exact (hx _ _ _ rfl).elim
    | one c r => exact (hx _ _ _ rfl).elim
    | alt c r o => exact (hx _ _ _ rfl).elim
  intro fuel
  induction fuel with
  | zero =>
    intro listed plan t pend fr hp ρ a w hc hh hplan hok h he
    have hall : ∀ i, i < all.size → listed.getD i false = true := by
      intro i hi
      cases hb : listed.getD i false with
      | true => rfl
      | false =>
        have : i ∈ (List.range all.size).filter fun i => !listed.getD i false := by simp [hi]; simpa using hb
        rw [List.length_eq_zero_iff.1 (Nat.le_zero.1 hc)] at this
        simp at this
    refine ⟨?_, fin listed plan t pend fr hp ρ a w hh hplan hall h he⟩
    cases hr : Region.ready .any all listed with
    | nil => rfl
    | cons i l =>
      have : i ∈ Region.ready .any all listed := by rw [hr]; simp
      rw [ready_mem h.lsz] at this
      obtain ⟨o, h1, h2, _⟩ := this
      rw [hall i (get_lt h1)] at h2; cases h2
  | succ fuel ih =>
    intro listed plan t pend fr hp ρ a w hc hh hplan hok h he
    refine ⟨fun hr => fin listed plan t pend fr hp ρ a w hh hplan (all_listedT h.lsz hord hr) h he, fun i hi => ?_⟩
    rw [ready_mem h.lsz] at hi
    obtain ⟨o, ho, hul, hed⟩ := hi
    have hilt := get_lt ho
    have hlsz : i < listed.size := by rw [h.lsz]; exact hilt
    have hcnt : ((List.range all.size).filter fun k => !(listed.setIfInBounds i true).getD k false).length ≤ fuel := by
      have := filter_lt (p := fun k => !(listed.setIfInBounds i true).getD k false) (q := fun k => !listed.getD k false) (x := i) (l := List.range all.size)
        (by intro y hy; simp only [listed_set hlsz] at hy; split at hy <;> simp_all) (by simp [hul]) (by simp [listed_set hlsz]) (by simp [hilt])
      omega
    -- the slots that are what they are told to be
    let f : Nat → Bool := fun t => pend.any fun k => !listed.getD k false && (match all[k]? with | some ok => (match ok.dst with | some d => Nat.beq d t | none => false) | none => false)
    have hf : ∀ t, f t = false → ∀ k ∈ pend, listed.getD k false = false → ∀ ok, all[k]? = some ok → ok.dst ≠ some t := by
      intro t ht k hk hl ok hok hd
      simp only [f, List.any_eq_false] at ht
      have := ht k hk
      simp [hl, hok, hd] at this
    have hFS : FSat ρ hp.length (hide f fr) a.tmps := by
      intro t v hv
      rw [hide_find] at hv
      split at hv
      · cases hv
      · rename_i hft
        exact h.frame t v hv (hf t (by simpa using hft))
    have hreads : ∀ t ∈ readsOf all o, Fr.find (hide f fr) t = Fr.find fr t := by
      intro t ht
      rw [hide_find, if_neg]
      intro hft
      simp only [f, List.any_eq_true, Bool.and_eq_true, Bool.not_eq_true'] at hft
      obtain ⟨k, hk, hl, hd⟩ := hft
      split at hd
      case h_2 => cases hd
      rename_i ok hok
      split at hd
      case h_2 => cases hd
      rename_i d hdd
      have := Nat.eq_of_beq_eq_true hd
      subst this
      obtain ⟨prek, rk, hk2⟩ := (h.pure k hk).2
      have hp' := hplan
      rw [hk2] at hp'
      obtain ⟨_, _, _, q4, _⟩ := planOk_suffix hp'
      obtain ⟨ok', d', pk⟩ := pureOk_of (q4 rfl)
      have e1 := pk.get
      rw [hok] at e1; cases e1
      have e2 := pk.dst
      rw [hdd] at e2; cases e2
      by_cases hki : k = i
      · subst hki; rw [ho] at hok; cases hok; exact pk.self ht
      · have := (pk.others i o ho (fun e => hki e.symm)).2 ht
        rw [hed k this] at hl; cases hl
    unfold wpOp
    simp only [ho]
    by_cases hin : i ∈ t.path.map (·.2)
    · -- the operation that the evaluator waits at
      have hbar : t.isBar = true := by
        rcases hh with rfl | hh
        · simp [PT.path] at hin
        · exact hh
      have hcv := PT.cover hok hbar
      have hch : i ∈ t.choices := by
        simp only [coverT, List.all_eq_true, Bool.or_eq_true, List.any_eq_true] at hcv
        simp only [List.mem_map] at hin
        obtain ⟨x, hx, hxi⟩ := hin
        rcases hcv x hx with g | ⟨y, hy, hy'⟩
        · rw [hxi] at g; exact hasNat_iff.1 g
        · exfalso
          rw [hxi, edgesB_of ho] at hy
          exact h.done y (hed y hy) (hasNat_iff.1 hy')
      obtain ⟨pre0, hpre0⟩ := h.suf
      obtain ⟨r, hw1, hw2, hw3, he⟩ := PT.choose hok he hch
      have hswap := h.swap (r' := (true, i) :: r.path) hpre0 (fun x => by simpa using hw3 x)
      have hplan' : planOkW all (pre0 ++ (true, i) :: r.path) = true := planOkW_swap (hpre0 ▸ hplan) hw1 (fun x => by simpa using (hw3 x).symm)
      clear h hplan
      obtain ⟨q1, q2, q3, q4, q6⟩ := planOk_suffix hplan'
      have h := hswap
      have hplan := hplan'
      obtain ⟨pre, hpre⟩ : ∃ pre, pre0 ++ (true, i) :: r.path = pre ++ (true, i) :: r.path := ⟨pre0, rfl⟩
      simp only [ho, planBar] at he
      obtain ⟨b, he, hb⟩ := guardK_det he
      rw [← guardK_congr (fun t ht => hreads t (by simp [readsOf, ht]))] at hb
      rw [guardK_wanted hFS hb]
      -- behind it
      have next : ∀ v cv hp' ρ' w', VR ρ' hp'.length v cv → HSat w0 ρ' hp' w' → hp.length ≤ hp'.length → (∀ b, b < hp.length → ρ' b = ρ b) →
          (dstK o.dst v N fr fun fr' => againsK T all fr' hp' (without (edges o) pend) ∧ evPT (AC P) T N all r (without (edges o) pend) fr' hp' K) →
          wpAny P .any all Q fuel (listed.setIfInBounds i true) (a.put o.dst cv) w' := by
        intro v cv hp' ρ' w' k1 k2 k3 k4 hd
        obtain ⟨fr', ⟨hag, he'⟩, hfr⟩ := dst_put hd
        have hagain : ∀ (l : List Nat), againsK T all fr' hp' l → ∀ k ∈ l, againK T all fr' hp' k := by
          intro l
          induction l with
          | nil => intro _ k hk; simp at hk
          | cons x l ih =>
            intro h k hk
            simp only [againsK] at h
            simp only [List.mem_cons] at hk
            rcases hk with rfl | hk
            · exact h.1
            · exact ih h.2 k hk
        have hmid : Mid T N M all (pre0 ++ (true, i) :: r.path) w0 ρ0 (listed.setIfInBounds i true) r.path (without (edges o) pend) fr' hp' ρ' (a.put o.dst cv) w' := by
          refine ⟨k2, by rw [put_size]; exact h.size, by rw [put_defers]; exact h.defers, by have := h.hM; omega, fun b hb => by rw [k4 b (by have := h.hM; omega)]; exact h.hρ b hb, by simp [h.lsz], ⟨pre ++ [(true, i)], by rw [hpre]; simp⟩, ?_, ?_, ?_, ?_, ?_⟩
          · intro k hk g
            rw [listed_set hlsz] at hk
            split at hk
            · subst k; exact q2 g
            · exact h.done k hk (by simp only [List.map_cons, List.mem_cons]; exact .inr g)
          · intro k hk hl
            rw [listed_set hlsz] at hl
            split at hl
            · cases hl
            · rename_i hki
              rcases h.todo k hk hl with g | ⟨g, g'⟩
              · simp only [List.map_cons, List.mem_cons] at g
                rcases g with g | g
                · exact absurd g hki
                · exact .inl g
              · have hm : k ∈ without (edges o) pend := by
                  rw [without_mem]
                  refine ⟨g, fun e => ?_⟩
                  rw [hed k e] at hl; cases hl
                exact .inr ⟨hm, hagain _ hag k hm⟩
          · intro k hk
            rw [without_mem] at hk
            refine ⟨fun g => (h.pure k hk.1).1 (by simp only [List.map_cons, List.mem_cons]; exact .inr g), (h.pure k hk.1).2⟩
          · intro k hk
            rw [without_mem] at hk
            exact h.lt k hk.1
          · intro t v' hv' hn
            cases hdst : o.dst with
            | none =>
              rw [hdst] at hfr
              simp only [PutIs] at hfr
              subst hfr
              refine VR_mono k3 k4 _ _ (h.frame t v' hv' fun k hk hl => ?_)
              have hki : k ≠ i := by intro e; subst e; exact (h.pure k hk).1 (by simp)
              refine hn k (by rw [without_mem]; exact ⟨hk, fun e => by rw [hed k e] at hl; cases hl⟩) (by rw [listed_set hlsz, if_neg hki]; exact hl)
            | some d =>
              rw [hdst] at hfr
              simp only [PutIs] at hfr
              rw [hfr.2 t] at hv'
              by_cases htd : t = d
              · subst htd
                rw [if_pos rfl] at hv'; cases hv'
                rw [put_self _ _ _ (by rw [h.size]; exact hfr.1)]
                exact k1
              · rw [if_neg htd] at hv'
                rw [put_getD _ _ _ _ (by simp; exact fun e => htd e.symm)]
                refine VR_mono k3 k4 _ _ (h.frame t v' hv' fun k hk hl => ?_)
                have hki : k ≠ i := by intro e; subst e; exact (h.pure k hk).1 (by simp)
                refine hn k (by rw [without_mem]; exact ⟨hk, fun e => by rw [hed k e] at hl; cases hl⟩) (by rw [listed_set hlsz, if_neg hki]; exact hl)
        obtain ⟨t', pend', fr'', g1, g2, g3, g4⟩ := Mid.aheadsT (P := P) hplan hw2 hmid he'
        exact ih _ _ t' pend' fr'' hp' ρ' _ w' hcnt g1 hplan g2 g3 g4
      cases b with
      | true =>
        simp only [if_true]
        simp only at he
        rw [← evOper_congr (fun t ht => hreads t (by simp [readsOf, ht]))] at he
        exact .inl (evOper_sound hT h.sat hFS he fun v cv hp' ρ' w' k0 k1 k2 k3 k4 => next v cv hp' ρ' w' k1 k2 k3 k4 k0)
      | false =>
        simp only [Bool.false_eq_true, if_false]
        simp only at he
        exact next (.tup []) undef hp ρ w (by simp only [VR, VRs]; exact ⟨[], rfl, rfl⟩) h.sat (Nat.le_refl _) (fun _ _ => rfl) he
    · -- one that has been told ahead
      have htd := (h.todo i hilt hul).resolve_left hin
      obtain ⟨hip, hag⟩ := htd
      obtain ⟨prei, ri, hi2⟩ := (h.pure i hip).2
      have hp' := hplan
      rw [hi2] at hp'
      obtain ⟨_, _, _, q4, _⟩ := planOk_suffix hp'
      obtain ⟨o', d, pk⟩ := pureOk_of (q4 rfl)
      have e1 := pk.get
      rw [ho] at e1; cases e1
      unfold againK at hag
      simp only [ho, pk.dst] at hag
      obtain ⟨b, hag, hb⟩ := guardK_det hag
      rw [← guardK_congr (fun t ht => hreads t (by simp [readsOf, ht]))] at hb
      rw [guardK_wanted hFS hb]
      have next : ∀ v cv ρ' w', (∀ v', Fr.find fr d = some v' → v' = v) → VR ρ' hp.length v cv → HSat w0 ρ' hp w' → (∀ b, b < hp.length → ρ' b = ρ b) → wpAny P .any all Q fuel (listed.setIfInBounds i true) (a.put o.dst cv) w' := by
        intro v cv ρ' w' k0 k1 k2 k4
        have hmid : Mid T N M all plan w0 ρ0 (listed.setIfInBounds i true) t.path pend fr hp ρ' (a.put o.dst cv) w' := by
          refine ⟨k2, by rw [put_size]; exact h.size, by rw [put_defers]; exact h.defers, h.hM, fun b hb => by rw [k4 b (by have := h.hM; omega)]; exact h.hρ b hb, by simp [h.lsz], h.suf, ?_, ?_, h.pure, h.lt, ?_⟩
          · intro k hk
            rw [listed_set hlsz] at hk
            split at hk
            · subst k; exact hin
            · exact h.done k hk
          · intro k hk hl
            rw [listed_set hlsz] at hl
            split at hl
            · cases hl
            · exact h.todo k hk hl
          · intro t v' hv' hn
            rw [pk.dst]
            by_cases htd : t = d
            · subst htd
              rw [k0 v' hv']
              rw [put_self _ _ _ (by rw [h.size]; exact h.lt i hip o t ho pk.dst)]; exact k1
            · rw [put_getD _ _ _ _ (by simp; exact fun e => htd e.symm)]
              refine VR_mono (Nat.le_refl _) k4 _ _ (h.frame t v' hv' fun k hk hl ok hok => ?_)
              by_cases hki : k = i
              · subst hki
                rw [ho] at hok; cases hok
                rw [pk.dst]; simp; exact fun e => htd e.symm
              · exact hn k hk (by rw [listed_set hlsz, if_neg hki]; exact hl) ok hok
        exact ih _ plan t pend fr hp ρ' _ w' hcnt hh hplan hok hmid he
      cases b with
      | true =>
        simp only [if_true]
        simp only at hag
        rw [getK_eq] at hag
        unfold PureAt at hag
        rw [← evOp_congr (fun t ht => hreads t (by simp [readsOf, ht]))] at hag
        refine .inl (evOp_wp hT h.sat hFS hag ?_)
        rintro v cv hp' ρ' w' ⟨rfl, rfl⟩ k1 k2 k3 k4
        exact next _ cv ρ' w' (fun v' hv' => by rw [hv']; rfl) k1 k2 k4
      | false =>
        simp only [Bool.false_eq_true, if_false]
        simp only at hag
        rw [getK_eq] at hag
        exact next (.tup []) undef ρ w (fun v' hv' => by rw [hv'] at hag; simpa using hag) (by simp only [VR, VRs]; exact ⟨[], rfl, rfl⟩) h.sat (fun _ _ => rfl)


def coverPT (all : Array Oper) (t : PT) : Bool := (List.range all.size).all fun i => hasNat i (t.path.map (·.2)) && (edgesB all i).all fun e => Nat.blt e i
/-- a region that draws its order, told along a tree of plans -/
theorem AW.drawT {id : Nat} {ops : Array Oper} {keep : Nat → Bool} {Kn E G R fr hp} (t : PT) (hm : P.follows .mixedOrders = true) (hT : TOk P T) (hplan : t.okB ops true = true) (hcov : coverPT ops t = true)
    (h : evPT (AC P) T N ops t [] fr hp fun fr' hp' => keepK keep fr' fun fr'' => Kn fr'' hp') : AW P N M (.region id ops true) Kn E G R fr hp := by
  rw [AW_iff]
  intro w0 ρ a w h1 h2 h3 h4 h5
  refine wp_region_any hm ?_
  have hs : HSat w0 ρ hp ({ w with drawn := w.drawn + 1 } : World) := h1.congr rfl rfl rfl rfl
  have hcov' := hcov
  simp only [coverPT, List.all_eq_true, List.mem_range, Bool.and_eq_true] at hcov'
  have hord : ∀ i, i < ops.size → ∀ e ∈ edgesB ops i, e < i := fun i hi e he => by simpa using (hcov' i hi).2 e he
  have h0 : ∀ i, (Array.replicate ops.size false).getD i false = false := by
    intro i
    rw [Array.getD_eq_getD_getElem?, Array.getElem?_replicate]
    split <;> rfl
  have hmid : Mid T N M ops t.path w0 ρ (Array.replicate ops.size false) t.path [] fr hp ρ a ({ w with drawn := w.drawn + 1 } : World) := by
    refine ⟨hs, h3, h4, h5, fun _ _ => rfl, by simp, ⟨[], rfl⟩, ?_, ?_, ?_, ?_, ?_⟩
    · intro i hi; rw [h0] at hi; cases hi
    · intro i hi _; exact .inl (hasNat_iff.1 (hcov' i hi).1)
    · intro i hi; simp at hi
    · intro i hi; simp at hi
    · intro t v hv _; exact h2 t v hv
  obtain ⟨t', pend', fr', g1, g2, g3, g4⟩ := Mid.aheadsT (P := P) (PT.path_ok hplan) hplan hmid h
  refine Mid.anyT hT hord ?_ _ _ t.path t' pend' fr' hp ρ a _ ?_ g1 (PT.path_ok hplan) g2 g3 g4
  · intro a w fr hp ρ' k1 k2 k3 k4 k5 k6 k7
    obtain ⟨fr'', k8, k9⟩ := keepK_sound k3 k1
    exact ⟨fr'', hp, ρ', k8, k2, k9, k4, k5, k6, k7⟩
  · exact Nat.le_trans (List.length_filter_le _ _) (by simp)
end
end Go.Aw
end
