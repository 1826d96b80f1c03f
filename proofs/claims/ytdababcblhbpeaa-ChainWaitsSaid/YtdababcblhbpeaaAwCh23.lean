/-
  AwCh23: events lead from tip to tip: the plain part. Own work.
-/
import Derived.Test.YtdababcblhbpeaaAwCh21
set_option linter.unusedVariables false
set_option linter.unusedSimpArgs false
set_option maxRecDepth 20000
open Go.Proofs
namespace Go.Aw

theorem evDown_length (way : List (List Int)) (f : Nat) : ∀ n, (evDown way f n).length = n
  | 0 => rfl
  | n + 1 => by simp [evDown, evDown_length way f n]
/-- what stands higher on the chain has more work -/
theorem way_work {c : Ch} {N : Nat} (ht : Tree c) (hc : KOk c N) : ∀ (j i : Nat) (a b : List Int), i < j → c.way[i]? = some a → c.way[j]? = some b → ∃ x y, findK a c.known = some x ∧ findK b c.known = some y ∧ x.work < y.work
  | 0, i, a, b, h, _, _ => absurd h (by omega)
  | j + 1, i, a, b, h, ha, hb => by
    obtain ⟨y, h1, h2, h3⟩ := ht.way (j + 1) b hb
    obtain ⟨bb, hbb⟩ := findK_mem h1
    obtain ⟨p, hp, _, hpw⟩ := ht.prev _ hbb (by simp only []; omega)
    have hj := h3 (by omega)
    simp only [Nat.add_sub_cancel] at hj
    rcases Nat.lt_or_ge i j with g | g
    · obtain ⟨x, y', g1, g2, g3⟩ := way_work ht hc j i a y.prev g ha hj
      simp only [] at hp hpw
      rw [hp] at g2; cases g2
      exact ⟨x, y, g1, h1, by omega⟩
    · have : i = j := by omega
      subst this
      rw [hj] at ha
      have := Option.some.inj ha
      subst this
      exact ⟨p, y, hp, h1, hpw⟩
theorem ups_ne {c : Ch} {N : Nat} (ht : Tree c) (hc : KOk c N) (hf : c.fork < c.way.length - 1) : c.ups ≠ [] := by
  intro hu
  have hcl := ups_ok ht hc
  obtain ⟨hfl, hfh, hfw⟩ := fork_ok ht hc
  rcases hcl.last with ⟨_, h2⟩ | h1
  · obtain ⟨htw, K, hK, _⟩ := ht.tips hc.way.1
    obtain ⟨x, hx, hb⟩ := ht.best_in hc.way.1
    rw [h2] at hfw
    obtain ⟨x', y', g1, g2, g3⟩ := way_work ht hc (c.way.length - 1) c.fork _ _ hf hfw htw
    rw [hx] at g1; cases g1
    rw [hK] at g2; cases g2
    obtain ⟨b, hbm⟩ := findK_mem hK
    have := (betterK_false.1 (hb _ hbm)).1
    simp only [] at this
    omega
  · rw [hu] at h1; simp at h1
/-- events that lead from a way to another -/
structure Plays (w w2 : List (List Int)) (E : List Ev) (k : Int) (f : Nat) (u : List (List Int)) : Prop where
  ev : E = evDown w f (w.length - 1 - f) ++ evUp u (f + 1)
  lt : f < w.length
  to : w2 = w.take (f + 1) ++ u
  few : ((w.length - 1 - f : Nat) : Int) ≤ k
  up : f < w.length - 1 → u ≠ []
  len : ∀ x ∈ u, x.length = 32
theorem plays_none {w : List (List Int)} {k : Int} (h : 0 < w.length) (hk : 0 ≤ k) : Plays w w [] k (w.length - 1) [] := by
  refine ⟨?_, by omega, ?_, ?_, fun h => absurd h (by omega), by simp⟩
  · rw [show w.length - 1 - (w.length - 1) = 0 by omega]; rfl
  · rw [List.take_of_length_le (by omega), List.append_nil]
  · rw [show w.length - 1 - (w.length - 1) = 0 by omega]; exact hk
theorem add_plays {c : Ch} {N : Nat} (hc : KOk c N) (ht : Tree c) (hN : N + 1 ≤ 100000) (h : Hdr) (hw : h.wf) : (∃ f u, Plays c.way (addC c h).1.way (addC c h).2.1 c.k f u) ∧ ((addC c h).2.2 ≠ 0 → (addC c h).2.1 = []) ∧ (addC c h).1.k = c.k := by
  have h0 := hc.way.1
  have hk0 := hc.hk.1
  have triv := plays_none (w := c.way) (k := c.k) h0 hk0
  unfold addC
  cases c.halted with
  | true => exact ⟨⟨_, _, triv⟩, fun _ => rfl, rfl⟩
  | false =>
    cases hmb : mayB h with
    | false => exact ⟨⟨_, _, triv⟩, fun _ => rfl, rfl⟩
    | true =>
      have hmay := mayB_true.1 hmb
      have hwk : 1 ≤ h.work ∧ h.work ≤ 1099511627776 := by unfold Hdr.may at hmay; omega
      cases hwt : waitsB c (hidOf h) || (findK (hidOf h) c.known).isSome with
      | true => exact ⟨⟨_, _, triv⟩, fun _ => rfl, rfl⟩
      | false =>
        rw [Bool.or_eq_false_iff] at hwt
        cases hp : findK h.prev c.known with
        | none =>
          simp only []
          cases decide ((c.orphans.length : Int) ≥ c.most) with
          | true => exact ⟨⟨_, _, triv⟩, fun _ => rfl, rfl⟩
          | false => exact ⟨⟨_, _, triv⟩, fun q => absurd rfl q, rfl⟩
        | some p =>
          simp only []
          cases deepB c p.height with
          | true => exact ⟨⟨_, _, triv⟩, fun _ => rfl, rfl⟩
          | false =>
            obtain ⟨k1, t1⟩ := takes_inv hc ht hN h hw hwk hwt.1 hwt.2 hp
            obtain ⟨k2, t2, hw2, hk2, _, _⟩ := adoptN_ok (takesC c (hidOf h) h).orphans.length (takesC c (hidOf h) h) k1 t1
            obtain ⟨c2, hc2⟩ : ∃ c2, adoptC (takesC c (hidOf h) h) = c2 := ⟨_, rfl⟩
            have k2' : KOk (adoptC (takesC c (hidOf h) h)) (N + 1) := k2
            have t2' : Tree (adoptC (takesC c (hidOf h) h)) := t2
            have w2' : (adoptC (takesC c (hidOf h) h)).way = c.way := hw2
            have k2'' : (adoptC (takesC c (hidOf h) h)).k = c.k := hk2
            rw [hc2] at k2' t2' w2' k2''
            simp only []
            rw [hc2]
            obtain ⟨hfl, hfh, hfw⟩ := fork_ok t2' k2'
            cases hst : c2.stops with
            | true =>
              have e1 : movesC c2 = { c2 with halted := true } := by unfold movesC; rw [hst]
              have e2 : movesE c2 = [] := by unfold movesE; rw [hst]
              simp only []
              rw [e1, e2]
              exact ⟨⟨c.way.length - 1, [], by rw [show ({ c2 with halted := true } : Ch).way = c.way from w2']; exact triv⟩, fun _ => rfl, k2''⟩
            | false =>
              have e1 : movesC c2 = { c2 with way := c2.way.take (c2.fork + 1) ++ c2.ups.reverse } := by unfold movesC; rw [hst]
              have e2 : movesE c2 = evDown c2.way c2.fork (c2.way.length - 1 - c2.fork) ++ evUp c2.ups.reverse (c2.fork + 1) := by unfold movesE; rw [hst]
              have e3 : movesN c2 = 0 := by unfold movesN; rw [hst]
              simp only []
              rw [e3]
              refine ⟨⟨c2.fork, c2.ups.reverse, ?_⟩, fun q => absurd rfl q, by rw [e1]; exact k2''⟩
              have hcl := ups_ok t2' k2'
              refine ⟨by rw [e2, w2'], by rw [← w2']; exact hfl, by rw [e1, ← w2']; rfl, ?_, fun q => ?_, fun x hx => ?_⟩
              · unfold Ch.stops at hst
                have := of_decide_eq_false hst
                rw [w2', k2''] at this
                rw [w2'] at hfl
                omega
              · rw [← w2'] at q
                intro g
                exact ups_ne t2' k2' q (List.reverse_eq_nil_iff.1 g)
              · obtain ⟨j, hj⟩ := List.getElem?_of_mem hx
                obtain ⟨y, hy, _⟩ := hcl.step j x hj
                obtain ⟨b, hb⟩ := findK_mem hy
                exact k2'.ids _ hb
end Go.Aw
