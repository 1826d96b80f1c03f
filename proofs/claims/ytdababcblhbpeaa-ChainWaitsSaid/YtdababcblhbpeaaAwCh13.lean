/-
  AwCh13: what a chain forgets: the plain part. Own work.
-/
import Derived.Test.YtdababcblhbpeaaAwCh11
set_option linter.unusedVariables false
set_option linter.unusedSimpArgs false
set_option maxRecDepth 20000
open Go.Proofs
namespace Go.Aw

/-- a map of counts -/
def gnM (l : List (Nat × List Int × Int)) : List (Nat × List Int × AV) := l.map fun e => (e.1, e.2.1, AV.int .i64 e.2.2)
theorem gnM_rens (σ : Nat → Nat) (l : List (Nat × List Int × Int)) : ((gnM l).map fun e => (e.1, e.2.1, AV.ren σ e.2.2)) = gnM l := by
  simp [gnM, AV.ren, Function.comp_def]
attribute [simp] gnM_rens
@[simp] theorem all_gnM (n : Nat) (l : List (Nat × List Int × Int)) : (∀ (a : Nat) (a1 : List Int) (b : AV), (a, a1, b) ∈ gnM l → AV.inn n b) ↔ True := by
  refine iff_true_intro fun a a1 b hx => ?_
  obtain ⟨y, _, e⟩ := List.mem_map.1 hx
  cases e
  simp [AV.inn]
@[simp] theorem gnM_length (l : List (Nat × List Int × Int)) : (gnM l).length = l.length := by simp [gnM]
def gkeys (l : List (Nat × List Int × Int)) : List (List Int) := l.map (·.2.1)
theorem findM_gnM (id : List Int) : ∀ l, (findM id (gnM l) = none ∧ id ∉ gkeys l) ∨ ∃ b v, findM id (gnM l) = some (b, id, .int .i64 v) ∧ (b, id, v) ∈ l
  | [] => .inl ⟨rfl, by simp [gkeys]⟩
  | e :: r => by
    simp only [gnM, List.map_cons, findM]
    by_cases q : id = e.2.1
    · rw [show (id == e.2.1) = true by simpa using q]
      exact .inr ⟨e.1, e.2.2, by rw [q], by rw [q]; exact .head _⟩
    · rw [show (id == e.2.1) = false by simpa using q]
      rcases findM_gnM id r with ⟨g1, g2⟩ | ⟨b, v, g1, g2⟩
      · exact .inl ⟨g1, by simp only [gkeys, List.map_cons, List.mem_cons, not_or]; exact ⟨q, g2⟩⟩
      · exact .inr ⟨b, v, g1, .tail _ g2⟩
def bornG (b : Nat) (v : Int) : List (Nat × List Int × Int) → List (Nat × List Int × Int)
  | [] => []
  | e :: r => match Nat.beq e.1 b with | true => (e.1, e.2.1, v) :: r | false => e :: bornG b v r
theorem bornM_gnM (b : Nat) (v : Int) : ∀ l, bornM b (.int .i64 v) (gnM l) = gnM (bornG b v l)
  | [] => rfl
  | e :: r => by
    simp only [gnM, List.map_cons, bornM, bornG]
    cases h : Nat.beq e.1 b with
    | true => rfl
    | false =>
      have := bornM_gnM b v r
      simp only [gnM] at this
      simp only [this, List.map_cons]
theorem bornG_keys (b : Nat) (v : Int) : ∀ l, gkeys (bornG b v l) = gkeys l ∧ (bornG b v l).map (·.1) = l.map (·.1)
  | [] => ⟨rfl, rfl⟩
  | e :: r => by
    have ih := bornG_keys b v r
    simp only [bornG]
    cases h : Nat.beq e.1 b with
    | true => exact ⟨rfl, rfl⟩
    | false =>
      simp only [gkeys, List.map_cons] at ih ⊢
      exact ⟨by rw [ih.1], by rw [ih.2]⟩
theorem bornG_mem {b : Nat} {v : Int} {e : Nat × List Int × Int} : ∀ {l}, e ∈ bornG b v l → e ∈ l ∨ e.2.2 = v ∧ ∃ x ∈ l, x.1 = e.1 ∧ x.2.1 = e.2.1
  | [], h => by cases h
  | a :: r, h => by
    simp only [bornG] at h
    split at h
    · rcases List.mem_cons.1 h with g | g
      · subst g; exact .inr ⟨rfl, a, .head _, rfl, rfl⟩
      · exact .inl (.tail _ g)
    · rcases List.mem_cons.1 h with g | g
      · subst g; exact .inl (.head _)
      · rcases bornG_mem g with q | ⟨q1, x, q2, q3⟩
        · exact .inl (.tail _ q)
        · exact .inr ⟨q1, x, .tail _ q2, q3⟩
theorem findB_gnM {b : Nat} {id : List Int} {v : Int} : ∀ {l : List (Nat × List Int × Int)}, (l.map (·.1)).Nodup → (b, id, v) ∈ l → findB b (gnM l) = some (b, id, .int .i64 v)
  | [], _, h => by cases h
  | e :: r, hn, h => by
    simp only [List.map_cons, List.nodup_cons] at hn
    simp only [gnM, List.map_cons, findB]
    rcases List.mem_cons.1 h with g | g
    · subst g; simp
    · have hne : e.1 ≠ b := fun q => hn.1 (List.mem_map.2 ⟨_, g, q.symm⟩)
      have : Nat.beq e.1 b = false := by
        cases hb : Nat.beq e.1 b with
        | false => rfl
        | true => exact absurd (Nat.eq_of_beq_eq_true hb) hne
      rw [this]
      exact findB_gnM hn.2 g
theorem findB_gsome {b : Nat} : ∀ {l : List (Nat × List Int × Int)}, (∃ e ∈ l, e.1 = b) → (findB b (gnM l)).isSome = true
  | [], h => by obtain ⟨e, h, _⟩ := h; cases h
  | a :: r, h => by
    simp only [gnM, List.map_cons, findB]
    cases hb : Nat.beq a.1 b with
    | true => rfl
    | false =>
      refine findB_gsome (l := r) ?_
      obtain ⟨e, h1, h2⟩ := h
      rcases List.mem_cons.1 h1 with g | g
      · subst g; rw [h2, Nat.beq_refl] at hb; cases hb
      · exact ⟨e, g, h2⟩

theorem findM_new {id : List Int} {k : Nat} {z : AV} : ∀ {l : List (Nat × List Int × Int)}, findM id (gnM l) = none → findM id (gnM l ++ [(k, id, z)]) = some (k, id, z)
  | [], _ => by simp [gnM, findM]
  | e :: r, h => by
    simp only [gnM, List.map_cons, findM, List.cons_append] at h ⊢
    cases hh : (id == e.2.1) with
    | true => rw [hh] at h; cases h
    | false => rw [hh] at h; exact findM_new (l := r) h
theorem findB_new {id : List Int} {k : Nat} {z : AV} : ∀ {l : List (Nat × List Int × Int)}, (∀ e ∈ l, e.1 < k) → (findB k (gnM l ++ [(k, id, z)])).isSome = true
  | [], _ => by simp [gnM, findB]
  | e :: r, h => by
    simp only [gnM, List.map_cons, findB, List.cons_append]
    cases hb : Nat.beq e.1 k with
    | true => rfl
    | false => exact findB_new (l := r) fun x hx => h x (.tail _ hx)
theorem bornM_new {id : List Int} {k : Nat} {z : AV} {v : Int} : ∀ {l : List (Nat × List Int × Int)}, (∀ e ∈ l, e.1 < k) → bornM k (.int .i64 v) (gnM l ++ [(k, id, z)]) = gnM (l ++ [(k, id, v)])
  | [], _ => by simp [gnM, bornM]
  | e :: r, h => by
    have hne : Nat.beq e.1 k = false := by
      cases hb : Nat.beq e.1 k with
      | false => rfl
      | true => have := h e (.head _); have := Nat.eq_of_beq_eq_true hb; omega
    have ih := bornM_new (id := id) (z := z) (v := v) (l := r) fun x hx => h x (.tail _ hx)
    simp only [gnM, List.map_append, List.map_cons, List.map_nil] at ih
    simp only [gnM, List.map_cons, bornM, List.cons_append, hne, ih, List.map_append, List.map_nil]

/-! ### what is gone -/
def goneK (c : Ch) : Nat → List Int → Bool
  | 0, _ => false
  | n + 1, id => match findK id c.known with
    | none => false
    | some x => !onB c id && (deepB c x.height || goneK c n x.prev)
@[irreducible] def goneB (c : Ch) (id : List Int) : Bool := goneK c ((hgtOf c id).toNat + 1) id
theorem goneB_eq {c : Ch} {N : Nat} (t : Tree c) (hc : KOk c N) {id : List Int} {x : KH} (h : findK id c.known = some x) : goneB c id = (!onB c id && (deepB c x.height || goneB c x.prev)) := by
  have hh : hgtOf c id = x.height := by unfold hgtOf; rw [h]; rfl
  have h1 : goneB c id = (!onB c id && (deepB c x.height || goneK c x.height.toNat x.prev)) := by
    unfold goneB
    rw [hh]
    simp only [goneK, h]
  rw [h1]
  cases ho : onB c id with
  | true => rfl
  | false =>
    obtain ⟨hpos, p, hp, hph, _⟩ := t.off hc h ho
    have hpp : hgtOf c x.prev = p.height := by unfold hgtOf; rw [hp]; rfl
    obtain ⟨b, hb⟩ := findK_mem hp
    have hp0 := (hc.hts _ hb).1
    simp only [] at hp0
    have : goneB c x.prev = goneK c x.height.toNat x.prev := by
      unfold goneB
      rw [hpp, show p.height.toNat + 1 = x.height.toNat by omega]
    rw [this]
def forgetsC (c : Ch) : Ch := { c with known := c.known.filter fun e => !goneB c e.2.1 }
theorem gone_all {c : Ch} {N : Nat} (t : Tree c) (hc : KOk c N) {G : List (List Int)} (hbase : ∀ e ∈ c.known, onB c e.2.1 = false → deepB c e.2.2.height = true → e.2.1 ∈ G)
    (hstep : ∀ e ∈ c.known, onB c e.2.1 = false → e.2.2.prev ∈ G → e.2.1 ∈ G) : ∀ (n : Nat) (id : List Int) (x : KH), findK id c.known = some x → x.height.toNat ≤ n → goneB c id = true → id ∈ G := by
  intro n
  induction n with
  | zero =>
    intro id x h hn hg
    rw [goneB_eq t hc h, Bool.and_eq_true] at hg
    have ho : onB c id = false := by simpa using hg.1
    have := (t.off hc h ho).1
    omega
  | succ n ih =>
    intro id x h hn hg
    rw [goneB_eq t hc h, Bool.and_eq_true, Bool.or_eq_true] at hg
    have ho : onB c id = false := by simpa using hg.1
    obtain ⟨b, hb⟩ := findK_mem h
    rcases hg.2 with g | g
    · exact hbase _ hb ho g
    · obtain ⟨hpos, p, hp, hph, _⟩ := t.off hc h ho
      exact hstep _ hb ho (ih x.prev p hp (by omega) g)
/-- how many are not among some keys -/
def ungone (ks : List (List Int)) (l : List (Nat × List Int × KH)) : Nat := (l.filter fun e => !(ks.contains e.2.1)).length
theorem ungone_le (s : List Int) (ks : List (List Int)) : ∀ (l : List (Nat × List Int × KH)), ungone (ks ++ [s]) l ≤ ungone ks l
  | [] => Nat.le_refl _
  | e :: r => by
    have := ungone_le s ks r
    unfold ungone at this ⊢
    rw [List.filter_cons, List.filter_cons]
    by_cases h1 : ks.contains e.2.1 = true
    · have h2 : (ks ++ [s]).contains e.2.1 = true := by
        rw [List.contains_iff_mem] at h1 ⊢
        exact List.mem_append_left _ h1
      rw [h1, h2]; simp only [Bool.not_false, Bool.not_true, if_true, if_false, List.length_cons, Bool.false_eq_true]; exact this
    · rw [Bool.not_eq_true] at h1
      rw [h1]
      cases (ks ++ [s]).contains e.2.1 <;> simp only [Bool.not_false, Bool.not_true, if_true, if_false, List.length_cons, Bool.false_eq_true] <;> omega
theorem ungone_lt {e : Nat × List Int × KH} {ks : List (List Int)} : ∀ {l : List (Nat × List Int × KH)}, e ∈ l → e.2.1 ∉ ks → ungone (ks ++ [e.2.1]) l < ungone ks l
  | [], h, _ => by cases h
  | a :: r, h, hs => by
    have hle := ungone_le e.2.1 ks r
    unfold ungone at hle ⊢
    rw [List.filter_cons, List.filter_cons]
    rcases List.mem_cons.1 h with g | g
    · subst g
      have h1 : ks.contains e.2.1 = false := by rw [← Bool.not_eq_true, List.contains_iff_mem]; exact hs
      have h2 : (ks ++ [e.2.1]).contains e.2.1 = true := by rw [List.contains_iff_mem]; simp
      rw [h1, h2]; simp only [Bool.not_false, Bool.not_true, if_true, if_false, List.length_cons, Bool.false_eq_true]; omega
    · have ih := ungone_lt g hs
      unfold ungone at ih
      by_cases h1 : ks.contains a.2.1 = true
      · have h2 : (ks ++ [e.2.1]).contains a.2.1 = true := by
          rw [List.contains_iff_mem] at h1 ⊢
          exact List.mem_append_left _ h1
        rw [h1, h2]; simp only [Bool.not_false, Bool.not_true, if_true, if_false, List.length_cons, Bool.false_eq_true]; exact ih
      · rw [Bool.not_eq_true] at h1
        rw [h1]
        cases (ks ++ [e.2.1]).contains a.2.1 <;> simp only [Bool.not_false, Bool.not_true, if_true, if_false, List.length_cons, Bool.false_eq_true] <;> omega
/-- the counts, while they grow -/
structure GOk (c : Ch) (l : List (Nat × List Int × Int)) (clk : Nat) (B : Int) : Prop where
  born : ∀ e ∈ l, e.1 < clk
  stamps : (l.map (·.1)).Nodup
  vals : ∀ e ∈ l, 1 ≤ e.2.2 ∧ e.2.2 ≤ B
  sound : ∀ k ∈ gkeys l, goneB c k = true ∧ k.length = 32
  cnt : ungone (gkeys l) c.known + l.length ≤ c.known.length
theorem GOk.weak {c : Ch} {l : List (Nat × List Int × Int)} {clk : Nat} {B B' : Int} (h : GOk c l clk B) (hB : B ≤ B') : GOk c l clk B' :=
  ⟨h.born, h.stamps, fun e he => by have := h.vals e he; omega, h.sound, h.cnt⟩
theorem GOk.bump {c : Ch} {l : List (Nat × List Int × Int)} {clk : Nat} {B : Int} (h : GOk c l clk B) {b : Nat} {id : List Int} {v : Int} (hm : (b, id, v) ∈ l) : GOk c (bornG b (v + 1) l) clk (B + 1) := by
  obtain ⟨k1, k2⟩ := bornG_keys b (v + 1) l
  have hv := h.vals _ hm
  simp only [] at hv
  have hlen : (bornG b (v + 1) l).length = l.length := by have := congrArg List.length k2; simpa using this
  refine ⟨?_, by rw [k2]; exact h.stamps, ?_, by rw [k1]; exact h.sound, by rw [k1, hlen]; exact h.cnt⟩
  · intro e he
    have : e.1 ∈ (bornG b (v + 1) l).map (·.1) := List.mem_map.2 ⟨e, he, rfl⟩
    rw [k2] at this
    obtain ⟨x, hx, hxe⟩ := List.mem_map.1 this
    have := h.born x hx; omega
  · intro e he
    rcases bornG_mem he with g | ⟨g, _⟩
    · have := h.vals e g; omega
    · omega
theorem GOk.add {c : Ch} {l : List (Nat × List Int × Int)} {clk : Nat} {B : Int} (h : GOk c l clk B) {e : Nat × List Int × KH} (he : e ∈ c.known) (hn : e.2.1 ∉ gkeys l) (hg : goneB c e.2.1 = true) (hl : e.2.1.length = 32) (hB : 0 ≤ B) : GOk c (l ++ [(clk, e.2.1, 1)]) (clk + 1) (B + 1) := by
  have hk : gkeys (l ++ [(clk, e.2.1, 1)]) = gkeys l ++ [e.2.1] := by simp [gkeys]
  refine ⟨?_, ?_, ?_, ?_, ?_⟩
  · intro x hx
    rcases List.mem_append.1 hx with g | g
    · have := h.born x g; omega
    · simp at g; subst g; simp
  · rw [List.map_append, List.nodup_append]
    refine ⟨h.stamps, by simp, ?_⟩
    intro a ha b hb
    simp at hb
    obtain ⟨x, hx, rfl⟩ := List.mem_map.1 ha
    have := h.born x hx; omega
  · intro x hx
    rcases List.mem_append.1 hx with g | g
    · have := h.vals x g; omega
    · simp at g; subst g; simp only []; omega
  · intro k hkk
    rw [hk] at hkk
    rcases List.mem_append.1 hkk with g | g
    · exact h.sound k g
    · simp at g; subst g; exact ⟨hg, hl⟩
  · rw [hk, List.length_append]
    have := ungone_lt he hn
    have := h.cnt
    simp only [List.length_cons, List.length_nil]; omega
theorem GOk.nil (c : Ch) : GOk c [] 0 0 := by
  refine ⟨by simp, by simp, by simp, by simp [gkeys], ?_⟩
  unfold ungone
  exact List.length_filter_le _ _
theorem delM_knM {id : List Int} : ∀ {l : List (Nat × List Int × KH)}, (l.map (·.2.1)).Nodup → delM id (knM l) = knM (l.filter fun e => !(e.2.1 == id))
  | [], _ => rfl
  | e :: r, hn => by
    simp only [List.map_cons, List.nodup_cons] at hn
    simp only [knM, List.map_cons, delM, List.filter_cons]
    by_cases q : id = e.2.1
    · rw [show (id == e.2.1) = true by simpa using q, show (e.2.1 == id) = true by simpa using q.symm]
      have : r.filter (fun e => !(e.2.1 == id)) = r := by
        rw [List.filter_eq_self]
        intro x hx
        have : x.2.1 ≠ id := fun g => hn.1 (List.mem_map.2 ⟨x, hx, by rw [g, q]⟩)
        simp [this]
      simp only [Bool.not_true, Bool.false_eq_true, if_false, this]
    · rw [show (id == e.2.1) = false by simpa using q, show (e.2.1 == id) = false by simpa using fun g => q g.symm]
      have := delM_knM (id := id) hn.2
      simp only [knM] at this
      simp only [Bool.not_false, if_true, this, List.map_cons]
end Go.Aw
