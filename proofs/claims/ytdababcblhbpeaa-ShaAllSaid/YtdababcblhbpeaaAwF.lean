/-
  AwF: operations that touch no memory. Own work of this session.
-/
import Derived.Test.YtdababcblhbpeaaAwE
import Derived.Laws.StructEq
import Derived.ChangeKeysEq
import Derived.WalkSpells
import Derived.Laws.Pointers
import Derived.Laws.Cover3
set_option linter.unusedVariables false
set_option linter.unusedSimpArgs false
namespace Go.Aw

theorem ext_get (xs : Array Value) (off len j : Nat) (h : off + len ≤ xs.size) (hj : j < len) : (xs.extract off (off + len))[j]? = xs[off + j]? := by
  rw [Array.getElem?_extract_of_lt (by omega), Array.getElem?_eq_getElem (by omega)]

/-- are some cells, held against as many others, the same? -/
def eqb : List AV → List AV → Option Bool
  | [], [] => some true
  | v :: vs, u :: us => (match v, u with
    | .int k a, .int k' b => if k = k' then (eqb vs us).map fun r => (a == b) && r else none
    | .bool a, .bool b => (eqb vs us).map fun r => (a == b) && r
    | .str a, .str b => (eqb vs us).map fun r => (a == b) && r
    | .ints k n a, .ints k' n' b => if k = k' ∧ n = n' then (eqb vs us).map fun r => (a == b) && r else none
    | _, _ => none)
  | _, _ => none

theorem eqsK_sound : ∀ {a b : List AV} {K : Bool → Prop}, eqsK a b K → ∃ r, eqb a b = some r ∧ K r
  | [], [], K, h => ⟨true, rfl, h⟩
  | [], _ :: _, K, h => h.elim
  | _ :: _, [], K, h => h.elim
  | v :: vs, u :: us, K, h => by
    simp only [eqsK] at h
    split at h
    · split at h
      · rename_i hk
        obtain ⟨r, h1, h2⟩ := eqsK_sound h
        exact ⟨_, by simp [eqb, of_decide_eq_true hk, h1], h2⟩
      · exact h.elim
    · obtain ⟨r, h1, h2⟩ := eqsK_sound h
      exact ⟨_, by simp [eqb, h1], h2⟩
    · obtain ⟨r, h1, h2⟩ := eqsK_sound h
      exact ⟨_, by simp [eqb, h1], h2⟩
    · split at h
      · rename_i hk hn
        obtain ⟨r, h1, h2⟩ := eqsK_sound h
        exact ⟨_, by simp [eqb, of_decide_eq_true hk, Nat.eq_of_beq_eq_true hn, h1], h2⟩
      · exact h.elim
    · exact h.elim

section
variable {P : Program} {T : Tab} (hT : TOk P T) {w : World} {ρ : Nat → Loc} {n : Nat}

/-- what '==' says of a part of each of two rows of cells -/
def EqHere (P : Program) (T : Tab) (w : World) (ρ : Nat → Loc) (n : Nat) (D : Nat) (t : TypeId) (c c' : List AV) : Prop :=
  ∀ (xs ys : Array Value) (off : Nat) (r : Bool), CAt ρ n (fun i => xs[i]?) c off → CAt ρ n (fun i => ys[i]?) c' off → off + asz c ≤ xs.size → off + asz c' ≤ ys.size → eqb c c' = some r →
    ∃ x y, (part t xs off).run P w = .ok x w ∧ (part t ys off).run P w = .ok y w ∧ (Op.equalIn D t x y).run P w = .ok r w

theorem eqb_append : ∀ {a b c d : List AV} {r : Bool}, a.length = b.length → eqb (a ++ c) (b ++ d) = some r → ∃ r1 r2, eqb a b = some r1 ∧ eqb c d = some r2 ∧ r = (r1 && r2)
  | [], [], c, d, r, _, h => ⟨true, r, rfl, h, by simp⟩
  | [], _ :: _, c, d, r, hl, h => by simp at hl
  | _ :: _, [], c, d, r, hl, h => by simp at hl
  | v :: vs, u :: us, c, d, r, hl, h => by
    simp only [List.length_cons, Nat.add_right_cancel_iff] at hl
    simp only [List.cons_append, eqb] at h
    split at h
    · split at h
      · rename_i hk
        simp only [Option.map_eq_some_iff] at h
        obtain ⟨q, h1, rfl⟩ := h
        obtain ⟨r1, r2, g1, g2, rfl⟩ := eqb_append hl h1
        exact ⟨(_ == _) && r1, r2, by simp only [eqb, hk, and_self, if_true, g1, Option.map_some], g2, (Bool.and_assoc _ _ _).symm⟩
      · cases h
    · simp only [Option.map_eq_some_iff] at h
      obtain ⟨q, h1, rfl⟩ := h
      obtain ⟨r1, r2, g1, g2, rfl⟩ := eqb_append hl h1
      exact ⟨(_ == _) && r1, r2, by simp only [eqb, g1, Option.map_some], g2, (Bool.and_assoc _ _ _).symm⟩
    · simp only [Option.map_eq_some_iff] at h
      obtain ⟨q, h1, rfl⟩ := h
      obtain ⟨r1, r2, g1, g2, rfl⟩ := eqb_append hl h1
      exact ⟨(_ == _) && r1, r2, by simp only [eqb, g1, Option.map_some], g2, (Bool.and_assoc _ _ _).symm⟩
    · split at h
      · rename_i hk
        simp only [Option.map_eq_some_iff] at h
        obtain ⟨q, h1, rfl⟩ := h
        obtain ⟨r1, r2, g1, g2, rfl⟩ := eqb_append hl h1
        exact ⟨(_ == _) && r1, r2, by simp only [eqb, hk, and_self, if_true, g1, Option.map_some], g2, (Bool.and_assoc _ _ _).symm⟩
      · cases h
    · cases h

theorem all_range_int : ∀ (xs ys : List Int), xs.length = ys.length → ((List.range xs.length).all fun i => xs.getD i 0 == ys.getD i 0) = (xs == ys)
  | [], [], _ => rfl
  | x :: xs, y :: ys, h => by
    have ih := all_range_int xs ys (by simpa using h)
    rw [List.length_cons, List.range_succ_eq_map, List.all_cons, List.all_map]
    simp only [List.getD_cons_zero, Function.comp_def, List.getD_cons_succ, ih]
    simp [List.cons_beq_cons]
  | [], _ :: _, h => by simp at h
  | _ :: _, [], h => by simp at h

theorem run_eqItems_int (d : Nat) (e : TypeId) (k : IntKind) (xs ys : Array Value) (a b : List Int) (off : Nat) (hu : P.underlying e = some (.int k))
    (hx : ∀ j, j < a.length → xs[j]? = some (.int k (a.getD j 0))) (hy : ∀ j, j < a.length → ys[j]? = some (.int k (b.getD j 0))) : ∀ (is : List Nat), (∀ i ∈ is, i < a.length) →
    (Op.eqItems (d + 1) e 1 xs ys is).run P w = .ok (is.all fun i => a.getD i 0 == b.getD i 0) w
  | [], _ => by simp [Op.eqItems]
  | i :: is, h => by
    have px : (part e xs (i * 1)).run P w = .ok (.int k (a.getD i 0)) w := by
      simp [part, isAgg, run_underlying hu, hx i (h i (by simp))]
    have py : (part e ys (i * 1)).run P w = .ok (.int k (b.getD i 0)) w := by
      simp [part, isAgg, run_underlying hu, hy i (h i (by simp))]
    simp only [Op.eqItems, Sem.run_bind, px, py, run_equalIn_int w d e k k _ _ hu, Result.andThen_ok]
    cases hb : (a.getD i 0 == b.getD i 0) with
    | false => simp; intro hh; simp at hb; exact absurd hh hb
    | true =>
      have ih := run_eqItems_int d e k xs ys a b off hu hx hy is (fun i hi => h i (by simp [hi]))
      simp only [Bool.not_true, Bool.false_eq_true, if_false, ih, List.all_cons, hb, Bool.true_and]

include hT in
theorem fits_sound : ∀ (d : Nat) (t : TypeId) (s s' : List AV) (o o' : Nat) (r r' : List AV), fits T d t s = some (o, r) → fits T d t s' = some (o', r') →
    o = o' ∧ (∃ i, T t = some i ∧ i.sz = o) ∧ ∃ c c', s = c ++ r ∧ s' = c' ++ r' ∧ asz c = o ∧ asz c' = o ∧ c.length = c'.length ∧ ∀ D, EqHere P T w ρ n (D + d + 1) t c c'
  | 0, t, s, s', o, o', r, r', h, h' => by simp [fits] at h
  | d + 1, t, s, s', o, o', r, r', h, h' => by
    unfold fits at h h'
    cases ht : T t with
    | none => rw [ht] at h; cases h
    | some i =>
      rw [ht] at h h'
      simp only at h h'
      obtain ⟨info, dd, zv, p1, p2, p3, p4, p5, p6, p7, p8, p9, p10, p12, p11⟩ := hT.ok t i ht
      cases hd : i.d with
      | int k =>
        simp only [hd] at h h'
        have hu := hT.u_int (t := t) (k := k) (by simp [td, ht, hd])
        have hsz : i.sz = 1 := p9 (by rw [hd]; rfl)
        split at h
        case h_2 => cases h
        rename_i k1 x1 rr
        split at h
        case h_2 => cases h
        rename_i hk1
        split at h'
        case h_2 => cases h'
        rename_i k2 x2 rr2
        split at h'
        case h_2 => cases h'
        rename_i hk2
        cases h; cases h'
        refine ⟨rfl, ⟨i, rfl, hsz⟩, [.int k1 x1], [.int k2 x2], rfl, rfl, by simp [asz, AV.sz], by simp [asz, AV.sz], rfl, ?_⟩
        intro D xs ys off q c1 c2 l1 l2 he
        have e1 := of_decide_eq_true hk1
        have e2 := of_decide_eq_true hk2
        subst e1; subst e2
        simp only [CAt, VR] at c1 c2
        obtain ⟨⟨v1, g1, _, rfl⟩, _⟩ := c1
        obtain ⟨⟨v2, g2, _, rfl⟩, _⟩ := c2
        simp [eqb] at he
        refine ⟨_, _, by simp [part, isAgg, run_underlying hu, g1]; rfl, by simp [part, isAgg, run_underlying hu, g2]; rfl, ?_⟩
        rw [show D + (d + 1) + 1 = D + d + 1 + 1 from rfl, run_equalIn_int w _ t k k _ _ hu, ← he]
      | bool =>
        simp only [hd] at h h'
        have hu := hT.u_bool (t := t) (by simp [td, ht, hd])
        have hsz : i.sz = 1 := p9 (by rw [hd]; rfl)
        split at h
        case h_2 => cases h
        rename_i x1 rr
        split at h'
        case h_2 => cases h'
        rename_i x2 rr2
        cases h; cases h'
        refine ⟨rfl, ⟨i, rfl, hsz⟩, [.bool x1], [.bool x2], rfl, rfl, by simp [asz, AV.sz], by simp [asz, AV.sz], rfl, ?_⟩
        intro D xs ys off q c1 c2 l1 l2 he
        simp only [CAt, VR] at c1 c2
        obtain ⟨⟨v1, g1, _, rfl⟩, _⟩ := c1
        obtain ⟨⟨v2, g2, _, rfl⟩, _⟩ := c2
        simp [eqb] at he
        refine ⟨_, _, by simp [part, isAgg, run_underlying hu, g1]; rfl, by simp [part, isAgg, run_underlying hu, g2]; rfl, ?_⟩
        rw [show D + (d + 1) + 1 = D + d + 1 + 1 from rfl, run_equalIn_bool' w _ t _ _ hu, ← he]
      | str =>
        simp only [hd] at h h'
        have hu := hT.u_str (t := t) (by simp [td, ht, hd])
        have hsz : i.sz = 1 := p9 (by rw [hd]; rfl)
        split at h
        case h_2 => cases h
        rename_i x1 rr
        split at h'
        case h_2 => cases h'
        rename_i x2 rr2
        cases h; cases h'
        refine ⟨rfl, ⟨i, rfl, hsz⟩, [.str x1], [.str x2], rfl, rfl, by simp [asz, AV.sz], by simp [asz, AV.sz], rfl, ?_⟩
        intro D xs ys off q c1 c2 l1 l2 he
        simp only [CAt, VR] at c1 c2
        obtain ⟨⟨v1, g1, _, rfl⟩, _⟩ := c1
        obtain ⟨⟨v2, g2, _, rfl⟩, _⟩ := c2
        simp [eqb] at he
        refine ⟨_, _, by simp [part, isAgg, run_underlying hu, g1]; rfl, by simp [part, isAgg, run_underlying hu, g2]; rfl, ?_⟩
        rw [show D + (d + 1) + 1 = D + d + 1 + 1 from rfl, run_equalIn_string w _ t _ _ hu, ← he]
        simp
      | array m e =>
        simp only [hd] at h h'
        have hu := hT.u_array (t := t) (n := m) (e := e) (by simp [td, ht, hd])
        split at h
        case h_2 => cases h
        rename_i k k1 m1 xs1 rr he1 hq1
        split at h
        case h_2 => cases h
        rename_i hk1 hm1 hz1
        split at h'
        case h_2 => cases h'
        rename_i k' k2 m2 xs2 rr2 he2 hq2
        split at h'
        case h_2 => cases h'
        rename_i hk2 hm2 hz2
        cases h; cases h'
        rw [he1] at he2; cases he2
        have e1 := of_decide_eq_true hk1
        have e2 := of_decide_eq_true hk2
        have e3 := Nat.eq_of_beq_eq_true hm1
        have e4 := Nat.eq_of_beq_eq_true hm2
        have e5 := Nat.eq_of_beq_eq_true hz1
        subst e1; subst e2; subst e3; subst e4
        have hue := hT.u_int (t := e) (k := k) he1
        obtain ⟨ei, hei, hed⟩ := td_some he1 (by simp)
        obtain ⟨einfo, _, _, r1, r2, _, _, _, _, _, _, r9, _⟩ := hT.ok e ei hei
        have hesz : P.cellsOf e = 1 := by
          have : ei.sz = 1 := r9 (by rw [hed]; rfl)
          simp [Program.cellsOf, r1, r2, this]
        refine ⟨rfl, ⟨i, rfl, e5⟩, [.ints k m2 xs1], [.ints k m2 xs2], rfl, rfl, by simp [asz, AV.sz], by simp [asz, AV.sz], rfl, ?_⟩
        intro D xs ys off q c1 c2 l1 l2 he
        simp only [CAt, asz, AV.sz, Nat.add_zero] at c1 c2 l1 l2
        have hpart : ∀ (zs : Array Value) (off : Nat), (part t zs off).run P w = .ok (.agg (zs.extract off (off + m2))) w := by
          intro zs off
          simp only [part, Sem.run_bind, hT.agg ht w, hd, TD.agg, Result.andThen_ok, if_true, hT.size ht w, e5, Sem.run_pure]
        refine ⟨_, _, hpart xs off, hpart ys off, ?_⟩
        simp only [eqb, and_self, if_true, Option.map_some, Option.some.injEq, Bool.and_true] at he
        rw [show D + (d + 1) + 1 = D + d + 1 + 1 from rfl, run_equalIn_array w (D + d + 1) _ _ hu r1, hesz, ← he, ← all_range_int xs1 xs2 (c1.1.1.trans c2.1.1.symm), c1.1.1]
        refine run_eqItems_int (w := w) (D + d) e k _ _ xs1 xs2 off hue (fun j hj => ?_) (fun j hj => ?_) (List.range m2) (fun i hi => by rw [c1.1.1]; simpa using hi)
        · rw [c1.1.1] at hj
          rw [ext_get _ _ _ _ (by omega) (by omega)]
          exact c1.1.2 j hj
        · rw [c1.1.1] at hj
          rw [ext_get _ _ _ _ (by omega) (by omega)]
          exact c2.1.2 j hj
      | struct fs =>
        simp only [hd] at h h'
        split at h
        case h_2 => cases h
        rename_i heq
        split at h'
        case h_2 => cases h'
        split at h
        case h_2 => cases h
        rename_i q1 hf
        split at h
        case h_2 => cases h
        rename_i hz
        split at h'
        case h_2 => cases h'
        rename_i q2 hf'
        split at h'
        case h_2 => cases h'
        rename_i hz'
        cases h; cases h'
        have e5 := Nat.eq_of_beq_eq_true hz
        have e6 := Nat.eq_of_beq_eq_true hz'
        simp only at e5 e6
        obtain ⟨fields, hu, hfs⟩ := hT.u_struct (t := t) (fs := fs) (by simp [td, ht, hd])
        obtain ⟨g1, g2⟩ := p11 heq
        rw [hu] at p4; cases p4
        obtain ⟨g3, g4⟩ := g2 fields rfl
        have key : ∀ (fl : List Field) (o o1 o2 : Nat) (s s' r r' : List AV), fitsF (fits T d) (fl.map fun f => (f.offset, f.type)) o s = some (o1, r) → fitsF (fits T d) (fl.map fun f => (f.offset, f.type)) o s' = some (o2, r') →
            (∀ f ∈ fl, f.name ≠ "_") → o1 = o2 ∧ ∃ c c', s = c ++ r ∧ s' = c' ++ r' ∧ o + asz c = o1 ∧ o + asz c' = o1 ∧ c.length = c'.length ∧
            ∀ (D : Nat) (xs ys : Array Value) (r : Bool), CAt ρ n (fun i => xs[i]?) c o → CAt ρ n (fun i => ys[i]?) c' o → o + asz c ≤ xs.size → o + asz c' ≤ ys.size → eqb c c' = some r →
              (Op.eqFields (D + d + 1) xs ys fl).run P w = .ok r w := by
          intro fl
          induction fl with
          | nil =>
            intro o o1 o2 s s' r r' h h' _
            simp only [List.map_nil, fitsF] at h h'
            cases h; cases h'
            refine ⟨rfl, [], [], rfl, rfl, by simp [asz], by simp [asz], rfl, ?_⟩
            intro D xs ys r _ _ _ _ he
            simp [eqb] at he
            simp [Op.eqFields, he]
          | cons f fl ih =>
            intro o o1 o2 s s' r r' h h' hn
            simp only [List.map_cons, fitsF] at h h'
            split at h
            case h_2 => cases h
            rename_i ho
            split at h'
            case h_2 => cases h'
            have ho' := Nat.eq_of_beq_eq_true ho
            split at h
            case h_2 => cases h
            rename_i z1 hz1
            split at h'
            case h_2 => cases h'
            rename_i z2 hz2
            obtain ⟨b1, ⟨fi, b2, b2'⟩, c, c', b3, b4, b5, b6, b7, b8⟩ := fits_sound d f.type s s' z1.1 z2.1 z1.2 z2.2 (by rw [hz1]) (by rw [hz2])
            rw [← b1] at h'
            obtain ⟨a1, d1, d2, a2, a3, a4, a5, a6, a7⟩ := ih (o + z1.1) o1 o2 z1.2 z2.2 r r' h h' (fun f hf => hn f (by simp [hf]))
            refine ⟨a1, c ++ d1, c' ++ d2, by rw [b3, a2, List.append_assoc], by rw [b4, a3, List.append_assoc], by rw [asz_append]; omega, by rw [asz_append]; omega, by simp [b7, a6], ?_⟩
            intro D xs ys q c1 c2 l1 l2 he
            rw [CAt_append] at c1 c2
            rw [asz_append] at l1 l2
            obtain ⟨r1, r2, e1, e2, e3⟩ := eqb_append b7 he
            obtain ⟨x, y, x1, x2, x3⟩ := b8 D xs ys o r1 c1.1 c2.1 (by omega) (by omega) e1
            have hr := a7 D xs ys r2 (by rw [← b5]; exact c1.2) (by rw [← b6]; exact c2.2) (by omega) (by omega) e2
            rw [← ho'] at x1 x2
            simp only [Op.eqFields, hn f (by simp), ne_eq, not_false_eq_true, if_true, Sem.run_bind, x1, x2, x3, Result.andThen_ok]
            cases r1 with
            | false => simp [e3]
            | true => simpa [e3] using hr
        subst hfs
        obtain ⟨a1, c, c', a2, a3, a4, a5, a6, a7⟩ := key fields.toList 0 o o' s s' r r' hf hf' g4
        refine ⟨a1, ⟨i, rfl, e5⟩, c, c', a2, a3, by omega, by omega, a6, ?_⟩
        intro D xs ys off q c1 c2 l1 l2 he
        have hpart : ∀ (zs : Array Value) (off : Nat), (part t zs off).run P w = .ok (.agg (zs.extract off (off + o))) w := by
          intro zs off
          simp only [part, Sem.run_bind, hT.agg ht w, hd, TD.agg, Result.andThen_ok, if_true, hT.size ht w, e5, Sem.run_pure]
        refine ⟨_, _, hpart xs off, hpart ys off, ?_⟩
        have hff : P.fieldsOf t = fields := by simp [Program.fieldsOf, hu]
        rw [show D + (d + 1) + 1 = D + d + 1 + 1 from rfl, run_equalIn_agg w (D + d + 1) t _ _ (by rw [hff]; exact hu) g3, hff]
        refine a7 D _ _ q ?_ ?_ (by simp; omega) (by simp; omega) he
        · refine CAt_shift off c 0 (fun j hj => ?_) (by simpa using c1)
          simp only [Nat.zero_add]
          rw [ext_get _ _ _ _ (by omega) (by omega)]
        · refine CAt_shift off c' 0 (fun j hj => ?_) (by simpa using c2)
          simp only [Nat.zero_add]
          rw [ext_get _ _ _ _ (by omega) (by omega)]
      | _ => simp [hd] at h

/-! ### operators -/
theorem strLt_eq : ∀ (a b : List UInt8), strLt a b = Op.bytesLess a b
  | a, [] => by cases a <;> simp [strLt, Op.bytesLess]
  | [], b :: y => by simp [strLt, Op.bytesLess]
  | a :: x, b :: y => by simp [strLt, Op.bytesLess, strLt_eq x y]

theorem run_eqGuard_of_int (op : BinOp) (t : TypeId) (x y : Operand) (k : IntKind) (a : Int) (v : Value) : eqGuard op t x y (.int k a) v = pure () := by cases op <;> rfl

/-- the run of an operator with what stands ahead of it -/
def runBin (P : Program) (op : BinOp) (t : TypeId) (x y : Operand) (a b : Value) (w : World) : Result Value := (do eqGuard op t x y a b; binOp op t a b).run P w

include hT in
theorem evBin_sound {op : BinOp} {t : TypeId} {x y : Operand} {a b : AV} {ca cb : Value} {K : AV → Prop} (ha : VR ρ n a ca) (hb : VR ρ n b cb) (h : evBin T op t a b K) :
    ∃ v cv, K v ∧ runBin P op t x y ca cb w = .ok cv w ∧ VR ρ n v cv := by
  unfold evBin at h
  split at h
  · -- whole numbers
    rename_i k p
    split at h
    case h_2 => exact h.elim
    rename_i k' q
    simp only [VR] at ha hb
    subst ha; subst hb
    split at h
    · refine ⟨_, .int k (shlI k p q), h.2, ?_, by simp only [VR]⟩
      have : ¬ q < 0 := by omega
      simp [runBin, run_eqGuard_of_int, binOp, Op.shift, this, shlI]
    · refine ⟨_, .int k (shrI k p q), h.2, ?_, by simp only [VR]⟩
      have : ¬ q < 0 := by omega
      simp [runBin, run_eqGuard_of_int, binOp, Op.shift, this, shrI]
    · split at h
      case h_2 => exact h.elim
      rename_i hsl hsr _ hk
      have e := of_decide_eq_true hk
      subst e
      unfold evIntBin at h
      split at h
      · exact ⟨_, .int k (k.wrap (p + q)), h, by simp [runBin, run_eqGuard_of_int, binOp, Op.intArith], by simp only [VR]⟩
      · exact ⟨_, .int k (k.wrap (p - q)), h, by simp [runBin, run_eqGuard_of_int, binOp, Op.intArith], by simp only [VR]⟩
      · exact ⟨_, .int k (k.wrap (p * q)), h, by simp [runBin, run_eqGuard_of_int, binOp, Op.intArith], by simp only [VR]⟩
      · exact ⟨_, .int k (k.wrap (p.tdiv q)), h.2, by simp [runBin, run_eqGuard_of_int, binOp, Op.intDiv, h.1], by simp only [VR]⟩
      · exact ⟨_, .int k (p.tmod q), h.2, by simp [runBin, run_eqGuard_of_int, binOp, Op.intDiv, h.1], by simp only [VR]⟩
      · exact ⟨_, .int k (andI k p q), h, by simp [runBin, run_eqGuard_of_int, binOp, Op.intBits, andI], by simp only [VR]⟩
      · exact ⟨_, .int k (orI k p q), h, by simp [runBin, run_eqGuard_of_int, binOp, Op.intBits, orI], by simp only [VR]⟩
      · exact ⟨_, .int k (xorI k p q), h, by simp [runBin, run_eqGuard_of_int, binOp, Op.intBits, xorI], by simp only [VR]⟩
      · exact ⟨_, .bool (decide (p < q)), h, by simp [runBin, run_eqGuard_of_int, binOp, Op.intCmp], by simp only [VR]⟩
      · exact ⟨_, .bool (decide (p ≤ q)), h, by simp [runBin, run_eqGuard_of_int, binOp, Op.intCmp], by simp only [VR]⟩
      · exact ⟨_, .bool (decide (p > q)), h, by simp [runBin, run_eqGuard_of_int, binOp, Op.intCmp], by simp only [VR]⟩
      · exact ⟨_, .bool (decide (p ≥ q)), h, by simp [runBin, run_eqGuard_of_int, binOp, Op.intCmp], by simp only [VR]⟩
      · exact ⟨_, .bool (p == q), h, by simp [runBin, run_eqGuard_of_int, binOp, Op.intCmp], by simp only [VR]⟩
      · exact ⟨_, .bool (p != q), h, by simp [runBin, run_eqGuard_of_int, binOp, Op.intCmp], by simp only [VR]⟩
      · exact h.elim
  · -- strings
    rename_i p
    split at h
    case h_2 => exact h.elim
    rename_i q
    simp only [VR] at ha hb
    subst ha; subst hb
    split at h
    · refine ⟨_, .bool (p == q), h, ?_, by simp only [VR]⟩
      simp [runBin, eqGuard_at_string, binOp, Op.stringOp]
    · refine ⟨_, .bool (!(p == q)), h, ?_, by simp only [VR]⟩
      simp [runBin, eqGuard_at_string, binOp, Op.stringOp]
    · refine ⟨_, .bool (strLt p q), h, ?_, by simp only [VR]⟩
      simp [runBin, eqGuard_at_string, binOp, Op.stringOp, strLt_eq]
    · obtain ⟨h1, h2⟩ := h
      refine ⟨_, .string ⟨(p ++ q).toArray⟩, h2, ?_, by simp only [VR]⟩
      have e : ¬ ((((⟨p.toArray⟩ : ByteArray).size + (⟨q.toArray⟩ : ByteArray).size : Nat) : Int) > IntKind.i64.max) := by
        simp [ByteArray.size]; omega
      simp only [runBin, eqGuard_at_string, binOp, Op.stringOp, pure_bind, e, if_false, Sem.run_pure]
      congr 2
    · exact h.elim
  · -- bools
    rename_i p
    split at h
    case h_2 => exact h.elim
    rename_i q
    simp only [VR] at ha hb
    subst ha; subst hb
    split at h
    · rename_i ht
      refine ⟨_, .bool (p == q), h, ?_, by simp only [VR]⟩
      simp [runBin, eqGuard_at_bool, run_eql_bool _ t p q (hT.u_bool ht)]
    · rename_i ht
      refine ⟨_, .bool (!(p == q)), h, ?_, by simp only [VR]⟩
      simp [runBin, eqGuard_at_bool, run_neq_bool _ t p q (hT.u_bool ht)]
    · exact h.elim
  · -- structs and arrays
    rename_i p
    split at h
    case h_2 => exact h.elim
    rename_i q
    simp only [VR] at ha hb
    obtain ⟨cs, rfl, ca1, ca2⟩ := ha
    obtain ⟨ds, rfl, cb1, cb2⟩ := hb
    have main : ∀ (r : Bool), fitsAll T t p = true → fitsAll T t q = true → eqb p q = some r →
        (∀ op, (eqGuard op t x y (.agg cs.toArray) (.agg ds.toArray)).run P w = .ok () w) ∧ (Op.equalIn 10000 t (.agg cs.toArray) (.agg ds.toArray)).run P w = .ok r w := by
      intro r f1 f2 he
      unfold fitsAll at f1 f2
      split at f1
      case h_2 => cases f1
      rename_i i ht
      rw [ht] at f2
      simp only at f2
      split at f1
      case h_2 => cases f1
      rename_i o1 a1 a2 g1
      split at f2
      case h_2 => cases f2
      rename_i o2 a3 a4 g2
      obtain ⟨e1, ⟨i', e2, e2'⟩, c, c', e3, e4, e5, e6, e7, e8⟩ := fits_sound (P := P) (w := w) (ρ := ρ) (n := n) hT 8 t p q o1 o2 [] [] g1 g2
      rw [ht] at e2; cases e2
      rw [List.append_nil] at e3 e4
      subst e3; subst e4
      obtain ⟨x1, y1, q1, q2, q3⟩ := e8 9991 cs.toArray ds.toArray 0 r (by simpa using ca1) (by simpa using cb1) (by simp; omega) (by simp; omega) he
      obtain ⟨info, dd, zv, p1, p2, p3, p4, p5, p6, p7, p8, p9, p10, p12, p11⟩ := hT.ok t i ht
      have hpart : ∀ (zs : List Value), zs.length = i.sz → (part t zs.toArray 0).run P w = .ok (.agg zs.toArray) w := by
        intro zs hz
        simp only [part, Sem.run_bind, hT.agg ht w, a1, Result.andThen_ok, if_true, hT.size ht w, Sem.run_pure]
        congr 2
        apply Array.ext'
        simp [hz, List.take_of_length_le]
      rw [hpart cs (by omega)] at q1
      rw [hpart ds (by omega)] at q2
      cases q1; cases q2
      exact ⟨fun op => run_eqGuard_agg w op t x y _ _ (p11 a2).1, q3⟩
    split at h
    · rename_i f1 f2
      obtain ⟨r, he, hK⟩ := eqsK_sound h
      obtain ⟨m1, m2⟩ := main r f1 f2 he
      refine ⟨_, .bool r, hK, ?_, by simp only [VR]⟩
      simp [runBin, m1, run_eql_struct, m2]
    · rename_i f1 f2
      obtain ⟨r, he, hK⟩ := eqsK_sound h
      obtain ⟨m1, m2⟩ := main r f1 f2 he
      refine ⟨_, .bool (!r), hK, ?_, by simp only [VR]⟩
      simp [runBin, m1, run_neq_struct, m2]
    · exact h.elim
  · -- a slice against nil
    split at h
    case h_2 => exact h.elim
    simp only [VR] at ha hb
    obtain ⟨_, ad, c, rfl, hlc, _, had⟩ := ha
    obtain ⟨rfl, _⟩ := hb
    split at h
    · rename_i e ht
      obtain ⟨h0, h⟩ := h
      rcases had with rfl | ⟨rfl, _⟩
      · omega
      refine ⟨_, .bool false, h, ?_, by simp only [VR]⟩
      simp [runBin, eqGuard_at_slice, Lib.run_eql_slice_nil w t e _ _ _ 0 0 (hT.u_slice ht)]
    · rename_i e ht
      obtain ⟨h0, h⟩ := h
      rcases had with rfl | ⟨rfl, _⟩
      · omega
      refine ⟨_, .bool true, h, ?_, by simp only [VR]⟩
      simp [runBin, eqGuard_at_slice, run_neq_slice_nil w t e _ _ _ (hT.u_slice ht)]
    · exact h.elim
  · -- a pointer against nil
    split at h
    case h_2 => exact h.elim
    simp only [VR] at ha hb
    obtain ⟨_, rfl⟩ := ha
    obtain ⟨rfl, _⟩ := hb
    split at h
    · rename_i ht
      obtain ⟨e, hu⟩ := hT.u_ptr ht
      refine ⟨_, .bool false, h, ?_, by simp only [VR]⟩
      simp [runBin, eqGuard_at_pointer, run_eql_pointer_nil (P := P) w t _ (by simp [Program.pointee, hu])]
    · rename_i ht
      obtain ⟨e, hu⟩ := hT.u_ptr ht
      refine ⟨_, .bool true, h, ?_, by simp only [VR]⟩
      simp [runBin, eqGuard_at_pointer, run_neq_pointer_nil (P := P) w t _ (by simp [Program.pointee, hu])]
    · exact h.elim
  · -- two nil slices
    split at h
    case h_2 => exact h.elim
    simp only [VR] at ha hb
    obtain ⟨rfl, _⟩ := ha
    obtain ⟨rfl, _⟩ := hb
    split at h
    · rename_i e ht
      refine ⟨_, .bool true, h, ?_, by simp only [VR]⟩
      simp [runBin, eqGuard_at_slice, Lib.run_eql_slice_nil w t e _ _ _ 0 0 (hT.u_slice ht)]
    · rename_i e ht
      refine ⟨_, .bool false, h, ?_, by simp only [VR]⟩
      simp [runBin, eqGuard_at_slice, run_neq_slice_nil w t e _ _ _ (hT.u_slice ht)]
    · exact h.elim
  · -- two nil pointers
    split at h
    case h_2 => exact h.elim
    simp only [VR] at ha hb
    obtain ⟨rfl, _⟩ := ha
    obtain ⟨rfl, _⟩ := hb
    split at h
    · rename_i ht
      obtain ⟨e, hu⟩ := hT.u_ptr ht
      refine ⟨_, .bool true, h, ?_, by simp only [VR]⟩
      simp [runBin, eqGuard_at_pointer, run_eql_pointer_nil (P := P) w t _ (by simp [Program.pointee, hu])]
    · rename_i ht
      obtain ⟨e, hu⟩ := hT.u_ptr ht
      refine ⟨_, .bool false, h, ?_, by simp only [VR]⟩
      simp [runBin, eqGuard_at_pointer, run_neq_pointer_nil (P := P) w t _ (by simp [Program.pointee, hu])]
    · exact h.elim
  · exact h.elim

theorem evUn_sound {op : UnOp} {a : AV} {ca : Value} {K : AV → Prop} (ha : VR ρ n a ca) (h : evUn op a K) : ∃ v cv, K v ∧ (Op.unary op ca).run P w = .ok cv w ∧ VR ρ n v cv := by
  unfold evUn at h
  split at h
  · simp only [VR] at ha; subst ha
    rename_i k m
    exact ⟨_, .int k (k.wrap (0 - m)), h, by simp [Op.unary, Op.intArith], by simp only [VR]⟩
  · simp only [VR] at ha; subst ha
    rename_i b
    exact ⟨_, .bool (!b), h, by simp [Op.unary], by simp only [VR]⟩
  · exact h.elim

include hT in
theorem evFieldAddr_sound {s : TypeId} {a : AV} {ca : Value} {f : Nat} {K : AV → Prop} (ha : VR ρ n a ca) (h : evFieldAddr T s a f K) :
    ∃ v cv, K v ∧ (Instr.fieldAt s ca f).run P w = .ok cv w ∧ VR ρ n v cv := by
  unfold evFieldAddr at h
  split at h
  case h_2 => exact h.elim
  rename_i b e off j
  split at h
  case h_2 => exact h.elim
  rename_i fs ht
  split at h
  case h_2 => exact h.elim
  rename_i o hf hj
  have hj' := Nat.eq_of_beq_eq_true hj
  subst hj'
  split at h
  case h_2 => exact h.elim
  rename_i fi hfi
  split at h
  case h_2 => exact h.elim
  rename_i hsz
  have hsz' := Nat.le_of_ble_eq_true hsz
  obtain ⟨fields, hu, rfl⟩ := hT.u_struct ht
  simp only [VR] at ha
  obtain ⟨hb, rfl⟩ := ha
  simp only [List.getElem?_map, Option.map_eq_some_iff] at hf
  obtain ⟨fd, hfd, rfl⟩ := hf
  have hfd' : fields[f]? = some fd := by simpa using hfd
  refine ⟨_, .pointer (some ⟨(ρ b).blk, (ρ b).base + e * (ρ b).esz + (off + fd.offset) + 0, none⟩), h, ?_, by simp only [VR]; exact ⟨hb, trivial⟩⟩
  have hz : ¬ fi.sz = 0 := by omega
  simp [Instr.fieldAt, run_underlying hu, hfd', Instr.sureAddr, fieldPlace, hT.size hfi w, hz, addr_add, Nat.add_assoc]

include hT in
theorem evField_sound {s : TypeId} {a : AV} {ca : Value} {f : Nat} {K : AV → Prop} (ha : VR ρ n a ca) (h : evField T s a f K) :
    ∃ v cv, K v ∧ (Instr.field s ca f).run P w = .ok cv w ∧ VR ρ n v cv := by
  unfold evField at h
  split at h
  case h_2 => exact h.elim
  rename_i segs
  split at h
  case h_2 => exact h.elim
  rename_i fs ht
  split at h
  case h_2 => exact h.elim
  rename_i o hf
  split at h
  case h_2 => exact h.elim
  rename_i fi hfi
  obtain ⟨fields, hu, rfl⟩ := hT.u_struct ht
  simp only [List.getElem?_map, Option.map_eq_some_iff] at hf
  obtain ⟨fd, hfd, rfl⟩ := hf
  have hfd' : fields[f]? = some fd := by simpa using hfd
  simp only [VR] at ha
  obtain ⟨cs, rfl, h1, h2⟩ := ha
  have hrun : ∀ cv, (part fd.type cs.toArray fd.offset).run P w = .ok cv w → (Instr.field s (.agg cs.toArray) f).run P w = .ok cv w := by
    intro cv hcv
    simp [Instr.field, run_underlying hu, hfd', asAgg, hcv]
  cases hag : fi.d.agg with
  | true =>
    simp only [hag] at h
    obtain ⟨a, r, g1, g2, g3⟩ := dropK_sound h
    obtain ⟨s', c, g4, g5, g6⟩ := takeK_sound g3
    subst g1; subst g4
    rw [CAt_append, CAt_append] at h1
    simp only [asz_append] at h2
    refine ⟨_, .agg (cs.toArray.extract fd.offset (fd.offset + fi.sz)), g6, hrun _ ?_, ?_⟩
    · simp only [part, Sem.run_bind, hT.agg hfi w, hag, Result.andThen_ok, if_true, hT.size hfi w, Sem.run_pure]
    · simp only [VR]
      refine ⟨(cs.drop fd.offset).take fi.sz, ?_, ?_, ?_⟩
      · congr 1
        apply Array.ext'
        simp [List.extract_eq_take_drop]
      · refine CAt_shift fd.offset s' 0 (fun j hj => ?_) (by rw [← g2]; simpa using h1.2.1)
        simp only [Nat.zero_add]
        rw [List.getElem?_take_of_lt (by omega), List.getElem?_drop]
      · simp; omega
  | false =>
    simp only [hag] at h
    obtain ⟨a, v, c, g1, g2, g3⟩ := loadSegK_sound h
    subst g1
    rw [CAt_append] at h1
    have hpart : ∀ cv, cs[fd.offset]? = some cv → (part fd.type cs.toArray fd.offset).run P w = .ok cv w := by
      intro cv hcv
      simp [part, hT.agg hfi w, hag, hcv]
    rcases g3 with ⟨k, m, xs, rfl, hj, hK⟩ | ⟨hv, _, hK⟩
    · simp only [CAt, Nat.zero_add] at h1
      have := h1.2.1.2 0 hj
      rw [g2] at this
      exact ⟨_, .int k (xs.getD 0 0), hK, hrun _ (hpart _ (by simpa using this)), by simp only [VR]⟩
    · rw [CAt_cons (isCell_not_ints hv)] at h1
      obtain ⟨cv, q1, q2, q3⟩ := h1.2.1
      simp only [Nat.zero_add] at q1
      rw [g2] at q1
      exact ⟨v, cv, hK, hrun _ (hpart _ q1), q3⟩
end
end Go.Aw
