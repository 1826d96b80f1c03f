/-
  AwCh21: the tip is the best: the plain part. Own work.
-/
import Derived.Test.YtdababcblhbpeaaAwCh19
set_option linter.unusedVariables false
set_option linter.unusedSimpArgs false
set_option maxRecDepth 20000
open Go.Proofs
namespace Go.Aw

theorem moves_tip {c : Ch} {N : Nat} (ht : Tree c) (hc : KOk c N) (hs : c.stops = false) : (movesC c).tip = c.best := by
  obtain ⟨hfl, hfh, hfw⟩ := fork_ok ht hc
  have hcl := ups_ok ht hc
  have hWl : (c.way.take (c.fork + 1)).length = c.fork + 1 := by rw [List.length_take]; omega
  have hm : movesC c = { c with way := c.way.take (c.fork + 1) ++ c.ups.reverse } := by unfold movesC; rw [hs]
  unfold Ch.tip
  rw [hm]
  simp only [List.length_append, hWl, List.length_reverse]
  rcases hcl.last with ⟨h1, h2⟩ | h1
  · rw [h1]
    simp only [List.length_nil, List.reverse_nil, List.append_nil]
    rw [show c.fork + 1 + 0 - 1 = c.fork by omega]
    have : (c.way.take (c.fork + 1))[c.fork]? = some c.forkId := by rw [List.getElem?_take, if_pos (by omega)]; exact hfw
    rw [← h2]
    simp [this]
  · have hlt := (List.getElem?_eq_some_iff.1 h1).1
    rw [List.length_reverse] at hlt
    have : (c.way.take (c.fork + 1) ++ c.ups.reverse)[c.fork + 1 + c.ups.length - 1]? = some c.best := by
      rw [List.getElem?_append_right (by omega), hWl, show c.fork + 1 + c.ups.length - 1 - (c.fork + 1) = c.ups.length - 1 by omega]; exact h1
    rw [show c.fork + 1 + c.ups.length - 1 = c.fork + c.ups.length by omega] at this
    simp [this]
/-- the tip has the most work; the chain begins with the genesis -/
structure BestC (c : Ch) (g : List Int) : Prop where
  k : c.k = 100
  go : c.halted = false
  gen : c.way[0]? = some g
  max : ∀ e ∈ c.known, e.2.2.work ≤ c.tipK.work
theorem tipK_of {c : Ch} {K : KH} (h : findK c.tip c.known = some K) : c.tipK = K := by unfold Ch.tipK; rw [h]; rfl
theorem new_best (h : Hdr) (most : Int) : BestC (newC h 100 most) (hidOf h) := by
  refine ⟨rfl, rfl, rfl, ?_⟩
  have hK : findK (newC h 100 most).tip (newC h 100 most).known = some ⟨h.prev, 0, h.work, 0⟩ := by
    show (if hidOf h = hidOf h then _ else _) = _
    rw [if_pos rfl]
  rw [tipK_of hK]
  intro e he
  simp [newC] at he
  subst he
  exact Int.le_refl _
theorem best_end {c : Ch} {N : Nat} (hc : KOk c N) (ht : Tree c) (hN : N ≤ 99) (hk : c.k = 100) (hgo : c.halted = false) {g : List Int} (hg : c.way[0]? = some g) : c.stops = false ∧ BestC (forgetsC (movesC c)) g := by
  obtain ⟨hfl, hfh, hfw⟩ := fork_ok ht hc
  have hst : c.stops = false := by
    have h1 := hc.way
    have h2 := hc.sum
    unfold Ch.stops
    exact decide_eq_false (by omega)
  have hm : movesC c = { c with way := c.way.take (c.fork + 1) ++ c.ups.reverse } := by unfold movesC; rw [hst]
  obtain ⟨k3, t3⟩ := moves_inv hc ht
  obtain ⟨k4, t4⟩ := forgets_inv k3 t3
  have htip := moves_tip ht hc hst
  have hft : (forgetsC (movesC c)).tip = c.best := htip
  obtain ⟨x, hx, hbx⟩ := ht.best_in hc.way.1
  obtain ⟨hw1, K, hK, _⟩ := t4.tips k4.way.1
  have hKx : K = x := by
    have h1 : findK (forgetsC (movesC c)).tip ((movesC c).known.filter fun e => !goneB (movesC c) e.2.1) = some K := hK
    obtain ⟨h2, _⟩ := findK_filter_of (p := fun i => !goneB (movesC c) i) t3.keys h1
    rw [hft] at h2
    have h3 : (movesC c).known = c.known := by rw [hm]
    rw [h3, hx] at h2
    exact (Option.some.inj h2).symm
  refine ⟨hst, ⟨by rw [hm]; exact hk, by rw [hm]; exact hgo, ?_, ?_⟩⟩
  · have : (forgetsC (movesC c)).way = c.way.take (c.fork + 1) ++ c.ups.reverse := by rw [hm]; rfl
    have hWl : (c.way.take (c.fork + 1)).length = c.fork + 1 := by rw [List.length_take]; omega
    rw [this, List.getElem?_append_left (by omega), List.getElem?_take, if_pos (by omega)]
    exact hg
  · rw [tipK_of hK, hKx]
    intro e he
    have he2 : e ∈ (movesC c).known := (List.mem_filter.1 he).1
    rw [hm] at he2
    exact (betterK_false.1 (hbx e he2)).1
theorem adds_best {c : Ch} {N : Nat} (hc : KOk c N) (ht : Tree c) (hN : N + 1 ≤ 99) (h : Hdr) (hw : h.wf) {g : List Int} (hb : BestC c g) : BestC (addC c h).1 g := by
  have hs := hc.sum
  unfold addC
  rw [hb.go]
  cases hmb : mayB h with
  | false => exact hb
  | true =>
    have hmay := mayB_true.1 hmb
    have hwk : 1 ≤ h.work ∧ h.work ≤ 1099511627776 := by unfold Hdr.may at hmay; omega
    cases hwt : waitsB c (hidOf h) || (findK (hidOf h) c.known).isSome with
    | true => exact hb
    | false =>
      rw [Bool.or_eq_false_iff] at hwt
      cases hp : findK h.prev c.known with
      | none =>
        simp only []
        cases decide ((c.orphans.length : Int) ≥ c.most) with
        | true => exact hb
        | false => exact ⟨hb.k, rfl, hb.gen, hb.max⟩
      | some p =>
        simp only []
        cases deepB c p.height with
        | true => exact hb
        | false =>
          obtain ⟨k1, t1⟩ := takes_inv hc ht (by omega) h hw hwk hwt.1 hwt.2 hp
          obtain ⟨k2, t2, hw2, hk2, _, hh2⟩ := adoptN_ok (takesC c (hidOf h) h).orphans.length (takesC c (hidOf h) h) k1 t1
          obtain ⟨hst, hB⟩ := best_end (c := adoptC (takesC c (hidOf h) h)) k2 t2 hN (hk2.trans hb.k) (hh2.trans hb.go) (g := g) (by
            have : (adoptC (takesC c (hidOf h) h)).way = c.way := hw2
            rw [this]; exact hb.gen)
          rw [hst]
          exact hB
end Go.Aw
