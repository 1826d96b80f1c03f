/-
  AwCh8: the best of what is known; a chain as a tree. Own work.
-/
import Derived.Test.YtdababcblhbpeaaAwCh7
set_option linter.unusedVariables false
set_option linter.unusedSimpArgs false
set_option maxRecDepth 20000
open Go.Proofs
namespace Go.Aw

/-- has the one more work than the other, or as much, and came it earlier? -/
@[irreducible] def betterK (a b : KH) : Bool := decide (b.work < a.work) || (decide (a.work = b.work) && decide (a.came < b.came))
theorem betterK_true {a b : KH} : betterK a b = true ↔ b.work < a.work ∨ a.work = b.work ∧ a.came < b.came := by unfold betterK; simp
theorem betterK_false {a b : KH} : betterK a b = false ↔ a.work ≤ b.work ∧ (a.work = b.work → b.came ≤ a.came) := by
  rw [← Bool.not_eq_true, betterK_true]; omega
def bestL (p : List Int × KH) : List (Nat × List Int × KH) → List Int × KH
  | [] => p
  | e :: r => bestL (match betterK e.2.2 p.2 with | true => (e.2.1, e.2.2) | false => p) r
def Ch.tipK (c : Ch) : KH := (findK c.tip c.known).getD zeroK
@[irreducible] def Ch.best (c : Ch) : List Int := (bestL (c.tip, c.tipK) c.known).1
theorem bestL_mem : ∀ (l : List (Nat × List Int × KH)) (p : List Int × KH), bestL p l = p ∨ ∃ b, (b, (bestL p l).1, (bestL p l).2) ∈ l
  | [], p => .inl rfl
  | e :: r, p => by
    simp only [bestL]
    split
    · rcases bestL_mem r (e.2.1, e.2.2) with h | ⟨b, h⟩
      · rw [h]; exact .inr ⟨e.1, .head _⟩
      · exact .inr ⟨b, .tail _ h⟩
    · rcases bestL_mem r p with h | ⟨b, h⟩
      · exact .inl h
      · exact .inr ⟨b, .tail _ h⟩
theorem bestL_le : ∀ (l : List (Nat × List Int × KH)) (p : List Int × KH), (∀ e ∈ l, betterK e.2.2 (bestL p l).2 = false) ∧ betterK p.2 (bestL p l).2 = false
  | [], p => ⟨fun e he => (by cases he), by simp only [bestL]; rw [betterK_false]; omega⟩
  | e :: r, p => by
    simp only [bestL]
    cases h : betterK e.2.2 p.2 with
    | true =>
      obtain ⟨h1, h2⟩ := bestL_le r (e.2.1, e.2.2)
      refine ⟨fun x hx => ?_, ?_⟩
      · rcases List.mem_cons.1 hx with g | g
        · subst g; exact h2
        · exact h1 x g
      · simp only [] at h2 ⊢
        rw [betterK_true] at h
        rw [betterK_false] at h2 ⊢
        omega
    | false =>
      obtain ⟨h1, h2⟩ := bestL_le r p
      refine ⟨fun x hx => ?_, h2⟩
      rcases List.mem_cons.1 hx with g | g
      · subst g
        simp only [] at h2 ⊢
        rw [betterK_false] at h h2 ⊢
        omega
      · exact h1 x g

theorem insK_new {id : List Int} {x : KH} {k : Nat} : ∀ {l : List (Nat × List Int × KH)}, findK id l = none → insK id x k l = l ++ [(k, id, x)]
  | [], h => rfl
  | e :: r, h => by
    simp only [findK] at h
    split at h
    · cases h
    rename_i q
    simp only [insK, if_neg q, insK_new h, List.cons_append]
theorem findK_app {id : List Int} : ∀ {l l' : List (Nat × List Int × KH)}, findK id (l ++ l') = (match findK id l with | some x => some x | none => findK id l')
  | [], l' => rfl
  | e :: r, l' => by
    simp only [List.cons_append, findK]
    by_cases q : id = e.2.1
    · rw [if_pos q, if_pos q]
    · rw [if_neg q, if_neg q, findK_app]
theorem findK_none {id : List Int} {l : List (Nat × List Int × KH)} : findK id l = none ↔ ∀ e ∈ l, e.2.1 ≠ id := by
  induction l with
  | nil => simp [findK]
  | cons e r ih =>
    simp only [findK]
    by_cases q : id = e.2.1
    · rw [if_pos q]; simp [q]
    · rw [if_neg q, ih]; simp; exact fun _ h => q h.symm
theorem findK_get {l : List (Nat × List Int × KH)} (hn : (l.map (·.2.1)).Nodup) {b : Nat} {id : List Int} {x : KH} (h : (b, id, x) ∈ l) : findK id l = some x := by
  induction l with
  | nil => cases h
  | cons e r ih =>
    simp only [List.map_cons, List.nodup_cons] at hn
    simp only [findK]
    rcases List.mem_cons.1 h with g | g
    · subst g; rw [if_pos rfl]
    · rw [if_neg, ih hn.2 g]
      intro q
      exact hn.1 (List.mem_map.2 ⟨_, g, q⟩)

/-- a chain is a tree, its way goes up to the tip -/
structure Tree (c : Ch) : Prop where
  born : ∀ e ∈ c.known, e.1 < c.clock
  stamps : (c.known.map (·.1)).Nodup
  keys : (c.known.map (·.2.1)).Nodup
  cames : ∀ e ∈ c.known, ∀ e' ∈ c.known, e.2.2.came = e'.2.2.came → e = e'
  camel : ∀ e ∈ c.known, e.2.2.came ≤ c.came
  zero : ∀ e ∈ c.known, e.2.2.height = 0 → c.way[0]? = some e.2.1
  prev : ∀ e ∈ c.known, 0 < e.2.2.height → ∃ p, findK e.2.2.prev c.known = some p ∧ p.height + 1 = e.2.2.height ∧ p.work < e.2.2.work
  way : ∀ (i : Nat) id, c.way[i]? = some id → ∃ x, findK id c.known = some x ∧ x.height = (i : Int) ∧ (0 < i → c.way[i - 1]? = some x.prev)
  orpn : ∀ o ∈ c.orphans, findK o.1 c.known = none
  orpd : (c.orphans.map (·.1)).Nodup
  omay : ∀ o ∈ c.orphans, 1 ≤ o.2.work
  size : (c.known.length : Int) ≤ c.came + 1

theorem Tree.tips {c : Ch} (t : Tree c) (h0 : 0 < c.way.length) : c.way[c.way.length - 1]? = some c.tip ∧ ∃ x, findK c.tip c.known = some x ∧ x.height = ((c.way.length - 1 : Nat) : Int) := by
  have h := List.getElem?_eq_getElem (l := c.way) (i := c.way.length - 1) (by omega)
  have h2 : c.tip = c.way[c.way.length - 1] := by unfold Ch.tip; simp [h]
  rw [← h2] at h
  obtain ⟨x, h3, h4, _⟩ := t.way _ _ h
  exact ⟨h, x, h3, h4⟩
theorem Tree.best_one {c : Ch} (t : Tree c) (h0 : 0 < c.way.length) {b : Nat} {id : List Int} {x : KH} (hm : (b, id, x) ∈ c.known) (hx : ∀ e ∈ c.known, betterK e.2.2 x = false) : c.best = id := by
  obtain ⟨_, y, hy, _⟩ := t.tips h0
  obtain ⟨by', hyb⟩ := findK_mem hy
  have hk : c.tipK = y := by unfold Ch.tipK; rw [hy]; rfl
  obtain ⟨h1, h2⟩ := bestL_le c.known (c.tip, c.tipK)
  have hin : ∃ b, (b, (bestL (c.tip, c.tipK) c.known).1, (bestL (c.tip, c.tipK) c.known).2) ∈ c.known := by
    rcases bestL_mem c.known (c.tip, c.tipK) with h | h
    · rw [h, hk]; exact ⟨_, hyb⟩
    · exact h
  obtain ⟨b2, hb2⟩ := hin
  have h3 := hx _ hb2
  have h4 := h1 _ hm
  simp only [] at h3 h4
  rw [betterK_false] at h3 h4
  have h5 := t.cames _ hb2 _ hm (by simp only []; omega)
  unfold Ch.best
  exact congrArg (fun z => z.2.1) h5
theorem Tree.best_in {c : Ch} (t : Tree c) (h0 : 0 < c.way.length) : ∃ x, findK c.best c.known = some x ∧ ∀ e ∈ c.known, betterK e.2.2 x = false := by
  obtain ⟨_, y, hy, _⟩ := t.tips h0
  obtain ⟨by', hyb⟩ := findK_mem hy
  have hk : c.tipK = y := by unfold Ch.tipK; rw [hy]; rfl
  obtain ⟨h1, h2⟩ := bestL_le c.known (c.tip, c.tipK)
  have hin : ∃ b, (b, (bestL (c.tip, c.tipK) c.known).1, (bestL (c.tip, c.tipK) c.known).2) ∈ c.known := by
    rcases bestL_mem c.known (c.tip, c.tipK) with h | h
    · rw [h, hk]; exact ⟨_, hyb⟩
    · exact h
  obtain ⟨b2, hb2⟩ := hin
  refine ⟨_, ?_, h1⟩
  unfold Ch.best
  exact findK_get t.keys hb2

/-! ### a header is taken in -/
theorem findK_new {id x : List Int} {y : KH} {k : Nat} {l : List (Nat × List Int × KH)} {p : KH} (h : findK x l = some p) : findK x (l ++ [(k, id, y)]) = some p := by rw [findK_app, h]
theorem Tree.takes {c : Ch} (t : Tree c) {id : List Int} {h : Hdr} {p : KH} (hid : findK id c.known = none) (ho : ∀ o ∈ c.orphans, o.1 ≠ id) (hp : findK h.prev c.known = some p) (hw : 1 ≤ h.work) (hpos : ∀ e ∈ c.known, 0 ≤ e.2.2.height) : Tree (takesC c id h) := by
  have hk : (takesC c id h).known = c.known ++ [(c.clock, id, newK c h)] := insK_new hid
  have hcl : (takesC c id h).clock = c.clock + 1 := by simp only [takesC, clockK, hid]
  have hca : (takesC c id h).came = c.came + 1 := rfl
  have hwy : (takesC c id h).way = c.way := rfl
  have hor : (takesC c id h).orphans = c.orphans := rfl
  have hnew : newK c h = ⟨h.prev, p.height + 1, p.work + h.work, c.came + 1⟩ := by simp only [newK, hp, Option.getD_some]
  obtain ⟨bp, hbp⟩ := findK_mem hp
  have hp0 := hpos _ hbp
  simp only [] at hp0
  refine ⟨?_, ?_, ?_, ?_, ?_, ?_, ?_, ?_, ?_, ?_, ?_, by rw [hk, hca, List.length_append]; have := t.size; simp only [List.length_cons, List.length_nil]; omega⟩
  · intro e he
    rw [hk] at he; rw [hcl]
    rcases List.mem_append.1 he with g | g
    · have := t.born e g; omega
    · simp at g; subst g; simp
  · rw [hk, List.map_append, List.nodup_append]
    refine ⟨t.stamps, by simp, ?_⟩
    intro a ha b hb
    simp at hb
    obtain ⟨e, he, rfl⟩ := List.mem_map.1 ha
    have := t.born e he; omega
  · rw [hk, List.map_append, List.nodup_append]
    refine ⟨t.keys, by simp, ?_⟩
    intro a ha b hb
    simp at hb
    obtain ⟨e, he, rfl⟩ := List.mem_map.1 ha
    rw [hb]
    exact findK_none.1 hid e he
  · intro e he e' he' heq
    rw [hk] at he he'
    rcases List.mem_append.1 he with g | g <;> rcases List.mem_append.1 he' with g' | g'
    · exact t.cames e g e' g' heq
    · simp at g'; subst g'; have := t.camel e g; rw [hnew] at heq; simp only [] at heq; omega
    · simp at g; subst g; have := t.camel e' g'; rw [hnew] at heq; simp only [] at heq; omega
    · simp at g g'; rw [g, g']
  · intro e he
    rw [hk] at he; rw [hca]
    rcases List.mem_append.1 he with g | g
    · have := t.camel e g; omega
    · simp at g; subst g; rw [hnew]; simp
  · intro e he hz
    rw [hk] at he; rw [hwy]
    rcases List.mem_append.1 he with g | g
    · exact t.zero e g hz
    · simp at g; subst g; rw [hnew] at hz; simp only [] at hz; omega
  · intro e he hz
    rw [hk] at he ⊢
    rcases List.mem_append.1 he with g | g
    · obtain ⟨q, h1, h2⟩ := t.prev e g hz
      exact ⟨q, findK_new h1, h2⟩
    · simp at g; subst g; rw [hnew]
      exact ⟨p, findK_new hp, rfl, by simp only []; omega⟩
  · intro i x hx
    rw [hwy] at hx ⊢
    obtain ⟨y, h1, h2⟩ := t.way i x hx
    exact ⟨y, by rw [hk]; exact findK_new h1, h2⟩
  · intro o hoo
    rw [hor] at hoo
    rw [hk, findK_app, t.orpn o hoo]
    simp only [findK]
    rw [if_neg (ho o hoo)]
  · rw [hor]; exact t.orpd
  · rw [hor]; exact t.omay
theorem Tree.less {c : Ch} (t : Tree c) (i : Nat) : Tree (lessC c i) ∧ ∀ o, c.orphans[i]? = some o → ∀ x ∈ (lessC c i).orphans, x.1 ≠ o.1 := by
  have hm : ∀ o, o ∈ c.orphans.take i ++ c.orphans.drop (i + 1) → o ∈ c.orphans := by
    intro o ho
    rcases List.mem_append.1 ho with g | g
    · exact List.mem_of_mem_take g
    · exact List.mem_of_mem_drop g
  have hsub : (c.orphans.take i ++ c.orphans.drop (i + 1)).Sublist c.orphans := by
    conv => rhs; rw [← List.take_append_drop i c.orphans]
    refine List.Sublist.append (List.Sublist.refl _) ?_
    rw [show c.orphans.drop (i + 1) = (c.orphans.drop i).drop 1 by rw [List.drop_drop]]
    exact List.drop_sublist _ _
  refine ⟨⟨t.born, t.stamps, t.keys, t.cames, t.camel, t.zero, t.prev, t.way, fun o ho => t.orpn o (hm o ho), ?_, fun o ho => t.omay o (hm o ho), t.size⟩, ?_⟩
  · exact (hsub.map _).nodup t.orpd
  · intro o ho x hx heq
    have hd := t.orpd
    have hi := (List.getElem?_eq_some_iff.1 ho).1
    have hsplit : c.orphans = c.orphans.take i ++ o :: c.orphans.drop (i + 1) := by
      have := List.getElem_cons_drop (i := i) hi
      rw [(List.getElem?_eq_some_iff.1 ho).2] at this
      rw [this, List.take_append_drop]
    rw [hsplit, List.map_append, List.map_cons] at hd
    have hx' : x.1 ∈ (c.orphans.take i).map (·.1) ++ (c.orphans.drop (i + 1)).map (·.1) := by
      rw [← List.map_append]; exact List.mem_map.2 ⟨x, hx, rfl⟩
    rw [heq] at hx'
    rw [List.nodup_append] at hd
    obtain ⟨_, h4, h5⟩ := hd
    rw [List.nodup_cons] at h4
    rcases List.mem_append.1 hx' with g | g
    · exact h5 _ g _ (.head _) rfl
    · exact h4.1 g
theorem Tree.step {c : Ch} {N : Nat} (t : Tree c) (k : KOk c N) {i : Nat} {o : List Int × Hdr} (ho : c.orphans[i]? = some o) (hp : (findK o.2.prev c.known).isSome = true) : Tree (stepC c i o) := by
  obtain ⟨t1, h1⟩ := t.less i
  have hm : o ∈ c.orphans := List.mem_of_getElem? ho
  unfold stepC
  split
  · exact t1
  · obtain ⟨p, hpe⟩ := Option.isSome_iff_exists.1 hp
    exact t1.takes (p := p) (t.orpn o hm) (h1 o ho) hpe (t.omay o hm) (fun e he => (k.hts e he).1)
theorem adoptN_ok : ∀ (n : Nat) (c : Ch) {N : Nat}, KOk c N → Tree c → KOk (adoptN n c) N ∧ Tree (adoptN n c) ∧ (adoptN n c).way = c.way ∧ (adoptN n c).k = c.k ∧ (adoptN n c).most = c.most ∧ (adoptN n c).halted = c.halted
  | 0, c, N, hk, ht => ⟨hk, ht, rfl, rfl, rfl, rfl⟩
  | n + 1, c, N, hk, ht => by
    simp only [adoptN]
    cases hf : idxF (prevKn c) c.orphans with
    | none => exact ⟨hk, ht, rfl, rfl, rfl, rfl⟩
    | some i =>
      obtain ⟨o, ho, hpo⟩ := idxF_some hf
      have hod : c.orphans.getD i zeroO = o := by simp [ho]
      simp only [hod]
      have hs := hk.step ho
      have ht' := ht.step hk ho (by unfold prevKn at hpo; exact hpo)
      obtain ⟨g1, g2, g3, g4, g5, g6⟩ := adoptN_ok n (stepC c i o) hs.1 ht'
      have e : (stepC c i o).way = c.way ∧ (stepC c i o).k = c.k ∧ (stepC c i o).most = c.most ∧ (stepC c i o).halted = c.halted := by
        unfold stepC; split <;> exact ⟨rfl, rfl, rfl, rfl⟩
      exact ⟨g1, g2, g3.trans e.1, g4.trans e.2.1, g5.trans e.2.2.1, g6.trans e.2.2.2⟩
end Go.Aw
