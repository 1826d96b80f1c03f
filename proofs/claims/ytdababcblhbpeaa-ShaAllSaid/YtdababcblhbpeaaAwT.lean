/-
  AwT: a table of types, held against the program by computing. Own work of this session.
-/
import Derived.Test.YtdababcblhbpeaaAwM
set_option linter.unusedVariables false
set_option linter.unusedSimpArgs false
namespace Go.Aw

def zCell : AV → Value → Bool
  | .int k n, .int k' n' => decide (k = k') && n == n'
  | .bool b, .bool b' => b == b'
  | .str l, .string s => l.isEmpty && s.data.size == 0
  | .con (.pointer none), .pointer none => true
  | .con (.slice none 0 0), .slice none 0 0 => true
  | .con (.map none), .map none => true
  | .con .nilFunc, .nilFunc => true
  | .con .nilIface, .nilIface => true
  | _, _ => false

def zMatch : List AV → List Value → Bool
  | [], cs => cs.isEmpty
  | .ints k m xs :: vs, cs => xs.length == m && Nat.ble m cs.length && ((List.zip xs (cs.take m)).all fun p => match p.2 with | .int k' n => decide (k = k') && p.1 == n | _ => false) && zMatch vs (cs.drop m)
  | v :: vs, c :: cs => zCell v c && zMatch vs cs
  | _ :: _, [] => false

theorem zCell_sound {ρ : Nat → Loc} {n : Nat} {v : AV} {c : Value} (h : zCell v c = true) : c.oneCell' = true ∧ VR ρ n v c ∧ ∀ k m xs, v ≠ .ints k m xs := by
  unfold zCell at h
  split at h <;> simp_all [VR, Value.oneCell']
  all_goals rfl

theorem zMatch_sound {ρ : Nat → Loc} {n : Nat} : ∀ (vs : List AV) (cs : List Value) (g : Nat → Option Value) (off : Nat), zMatch vs cs = true → (∀ j, j < cs.length → g (off + j) = cs[j]?) → CAt ρ n g vs off ∧ cs.length = asz vs := by
  intro vs
  induction vs with
  | nil =>
    intro cs g off h hg
    simp only [zMatch, List.isEmpty_iff] at h
    subst h
    exact ⟨by simp only [CAt], rfl⟩
  | cons v vs ih =>
    intro cs g off h hg
    by_cases hi : ∃ k m xs, v = .ints k m xs
    · obtain ⟨k, m, xs, rfl⟩ := hi
      simp only [zMatch, Bool.and_eq_true, beq_iff_eq, Nat.ble_eq] at h
      obtain ⟨⟨⟨h1, h2⟩, h3⟩, h4⟩ := h
      obtain ⟨h5, h6⟩ := ih (cs.drop m) g (off + m) h4 (fun j hj => by
        simp only [List.length_drop] at hj
        rw [Nat.add_assoc, hg _ (by omega)]; simp)
      refine ⟨?_, ?_⟩
      · simp only [CAt]
        refine ⟨⟨h1, fun j hj => ?_⟩, h5⟩
        rw [hg j (by omega)]
        have hx : j < xs.length := by omega
        have hc : j < cs.length := by omega
        rw [List.all_eq_true] at h3
        have := h3 (xs[j], cs[j]) (by
          rw [List.mem_iff_getElem]
          refine ⟨j, by simp; omega, by simp⟩)
        simp only at this
        rw [List.getElem?_eq_getElem hc]
        split at this
        · rename_i k' nn hcj
          simp only [Bool.and_eq_true, decide_eq_true_eq, beq_iff_eq] at this
          have hcj' : cs[j] = .int k' nn := hcj
          rw [hcj', this.1, List.getD_eq_getElem?_getD, List.getElem?_eq_getElem hx]
          simp [this.2]
        · cases this
      · simp only [asz, AV.sz, ← h6, List.length_drop]; omega
    · have hn : ∀ k m xs, v ≠ .ints k m xs := fun k m xs e => hi ⟨k, m, xs, e⟩
      cases cs with
      | nil => cases v <;> simp [zMatch] at h <;> exact absurd rfl (hn _ _ _)
      | cons c cs =>
        have h' : zCell v c = true ∧ zMatch vs cs = true := by
          cases v <;> simp_all [zMatch]
        obtain ⟨h1, h2⟩ := h'
        obtain ⟨q1, q2, _⟩ := zCell_sound (ρ := ρ) (n := n) h1
        obtain ⟨h5, h6⟩ := ih cs g (off + 1) h2 (fun j hj => by
          have := hg (j + 1) (by simpa using hj)
          rw [Nat.add_assoc, Nat.add_comm 1 j, this]; simp)
        refine ⟨?_, ?_⟩
        · rw [CAt_cons hn]
          exact ⟨⟨c, by have := hg 0 (by simp); simpa using this, q1, q2⟩, h5⟩
        · simp only [asz, AV.sz_one hn, List.length_cons, h6]; omega

def tdOkB : TD → TypeDesc → Bool
  | .int k, .int k' => decide (k = k')
  | .bool, .bool => true
  | .str, .string => true
  | .ptr, .pointer _ => true
  | .slice e, .slice e' => e == e'
  | .array n e, .array n' e' => n == n' && e == e'
  | .struct fs, .struct fields => decide (fs = fields.toList.map fun f => (f.offset, f.type))
  | .map k e, .map k' e' => k == k' && e == e'
  | .func, .func _ _ _ => true
  | _, _ => false

theorem tdOkB_sound {d : TD} {e : TypeDesc} (h : tdOkB d e = true) : tdOk d e := by
  unfold tdOkB at h
  split at h <;> simp_all [tdOk]

def tokB (P : Program) (t : TypeId) (i : TI) : Bool :=
  match P.info? t, P.underlying t with
  | some info, some d => info.size == i.sz && info.bytes == i.bys && tdOkB i.d d && (match info.zero with
    | some zv => asz i.z == i.sz && zMatch i.z zv.cells.toList && (i.d.agg || i.sz == 1) && (!i.d.agg || match zv with | .agg _ => true | _ => false)
    | none => false) &&
    (match d with | .struct fields => fields.toList.all fun f => (P.info? f.type).isSome | _ => true) &&
    (!i.eq || (P.eqGuardType P.depth t == false && match d with | .struct fields => (P.stoodInHeld t == false) && fields.toList.all fun f => f.name != "_" | _ => true))
  | _, _ => false

theorem tokB_sound {P : Program} {t : TypeId} {i : TI} (h : tokB P t i = true) : ∃ info d zv, P.info? t = some info ∧ info.size = i.sz ∧ info.bytes = i.bys ∧ P.underlying t = some d ∧ tdOk i.d d ∧
    info.zero = some zv ∧ asz i.z = i.sz ∧ ZOk i.z zv.cells.toList ∧ (i.d.agg = false → i.sz = 1) ∧ (i.d.agg = true → ∃ cs, zv = .agg cs) ∧
    (∀ fields, d = .struct fields → ∀ f ∈ fields.toList, (P.info? f.type).isSome = true) ∧
    (i.eq = true → P.eqGuardType P.depth t = false ∧ ∀ fields, d = .struct fields → P.stoodInHeld t = false ∧ ∀ f ∈ fields.toList, f.name ≠ "_") := by
  unfold tokB at h
  split at h
  case h_2 => cases h
  rename_i info d hinfo hd
  simp only [Bool.and_eq_true] at h
  obtain ⟨⟨⟨⟨⟨h1, h2⟩, h3⟩, h4⟩, h5⟩, h6⟩ := h
  split at h4
  case h_2 => cases h4
  rename_i zv hz
  simp only [Bool.and_eq_true, beq_iff_eq] at h1 h2 h4
  obtain ⟨⟨⟨g1, g2⟩, g3⟩, g4⟩ := h4
  refine ⟨info, d, zv, hinfo, h1, h2, hd, tdOkB_sound h3, hz, g1, ⟨fun ρ n => (zMatch_sound _ _ _ 0 g2 (by simp)).1, (zMatch_sound (ρ := fun _ => ⟨0, 0, 0, 0⟩) (n := 0) _ _ (fun j => zv.cells.toList[j]?) 0 g2 (by simp)).2⟩, ?_, ?_, ?_, ?_⟩
  · intro ha
    rw [ha] at g3; simpa using g3
  · intro ha
    rw [ha] at g4
    simp at g4
    split at g4
    · exact ⟨_, rfl⟩
    · cases g4
  · intro fields hf f hm
    subst hf
    simp only [List.all_eq_true] at h5
    exact h5 f hm
  · intro he
    rw [he] at h6
    simp only [Bool.not_true, Bool.false_or, Bool.and_eq_true, beq_iff_eq] at h6
    refine ⟨h6.1, fun fields hf => ?_⟩
    subst hf
    have := h6.2
    simp only [Bool.and_eq_true, beq_iff_eq, List.all_eq_true, bne_iff_ne] at this
    exact this

inductive Tr where
  | nil
  | node (k : Nat) (i : TI) (l r : Tr)

def Tr.find : Tr → Nat → Option TI
  | .nil, _ => none
  | .node k i l r, t => match Nat.beq t k with
    | true => some i
    | false => match Nat.ble t k with
      | true => l.find t
      | false => r.find t
def Tr.all (p : Nat → TI → Bool) : Tr → Bool
  | .nil => true
  | .node k i l r => p k i && (l.all p && r.all p)

theorem Tr.all_find {p : Nat → TI → Bool} : ∀ {s : Tr} {t : Nat} {i : TI}, s.all p = true → s.find t = some i → p t i = true
  | .nil, t, i, h, hf => by simp [Tr.find] at hf
  | .node k j l r, t, i, h, hf => by
    simp only [Tr.all, Bool.and_eq_true] at h
    simp only [Tr.find] at hf
    split at hf
    · rename_i hb
      have := Nat.eq_of_beq_eq_true hb
      subst this
      cases hf; exact h.1
    · split at hf
      · exact Tr.all_find h.2.1 hf
      · exact Tr.all_find h.2.2 hf

theorem TOk.of_tree {P : Program} (s : Tr) (h : s.all (tokB P) = true) : TOk P s.find := ⟨fun t i hf => tokB_sound (Tr.all_find h hf)⟩
/-! ### operations of a region that draws its order, held against what they brought -/
def guardK (all : Array Oper) (o : Oper) (fr : Fr) (K : Bool → Prop) : Prop :=
  match o.guard with
  | none => K true
  | some (j, want) => (match (all[j]?).bind (·.dst) with
    | some d => getK d fr fun g => (match g with
      | .bool g => K (g == want)
      | .tup [] => K false
      | _ => False)
    | none => False)

/-- an operation that leaves the memory as it is, and its value is 'v' -/
def PureAt (T : Tab) (fr : Fr) (hp : Hp) (op : Op) (v : AV) : Prop := evOp T fr hp op fun u hp' => u = v ∧ hp' = hp

def againK (T : Tab) (all : Array Oper) (fr : Fr) (hp : Hp) (i : Nat) : Prop :=
  match all[i]? with
  | some o => (match o.dst with
    | some d => guardK all o fr fun b => (match b with
      | true => getK d fr fun v => PureAt T fr hp o.op v
      | false => getK d fr fun v => v = .tup [])
    | none => False)
  | none => False
def againsK (T : Tab) (all : Array Oper) (fr : Fr) (hp : Hp) : List Nat → Prop
  | [] => True
  | i :: r => againK T all fr hp i ∧ againsK T all fr hp r

end Go.Aw
