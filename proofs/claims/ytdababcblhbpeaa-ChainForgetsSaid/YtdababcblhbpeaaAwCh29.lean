/-
  AwCh29: what stands aside, and is forgotten: the plain part. Own work.
-/
import Derived.Test.YtdababcblhbpeaaAwCh27
set_option linter.unusedVariables false
set_option linter.unusedSimpArgs false
set_option maxRecDepth 20000
open Go.Proofs
namespace Go.Aw

/-- what is known of the one aside -/
structure SideI (c : Ch) (sd : List Int) (i a : Nat) (k : Int) : Prop where
  is : (findK sd c.known).isSome = decide (a < i ∧ (i : Int) - k ≤ (a : Int) + 1)
  of : ∀ x, findK sd c.known = some x → x.prev = idI idsF a ∧ x.height = (a : Int) + 1
theorem forgets_step {c : Ch} {n i a N : Nat} {k : Int} {sd : List Int} (hc : KOk c N) (ht : Tree c) (hN : N + 1 ≤ 100000) (hl : Line c idsF i k 2 fun id _ => id = sd) (hs : SideI c sd i a k) (hi : i + 1 ≤ n) (hn : n ≤ 40) (hk : 1 ≤ k)
    (hsd : ∀ j, j ≤ 40 → sd ≠ idI idsF j) {h : Hdr} (hh : h = ⟨idI idsF i, List.replicate 32 0, 2, (i : Int)⟩) (hwf : h.wf) :
    (addC c h).2.2 = 0 ∧ Line (addC c h).1 idsF (i + 1) k 2 (fun id _ => id = sd) ∧ (i ≠ a → SideI (addC c h).1 sd (i + 1) a k) ∧ (i = a → findK sd (addC c h).1.known = none) := by
  obtain ⟨_, h1, _, h2, h3, h4⟩ := line_add idsF_ok hc ht hN hl (by omega) (Nat.le_refl 40) rfl (by omega) (fun id x q => by rw [q]; exact hsd _ (by omega)) hh hwf
  have keep : findK sd c.known = none → findK sd (addC c h).1.known = none := fun q => by
    cases g : findK sd (addC c h).1.known with
    | none => rfl
    | some x =>
      rcases h3 sd x g with e | e
      · exact absurd e (hsd _ (by omega))
      · rw [q] at e; cases e
  refine ⟨h1, h2, fun hia => ?_, fun hia => ?_⟩
  · cases q : findK sd c.known with
    | none =>
      have hf := hs.is
      rw [q] at hf
      have hf2 := of_decide_eq_false hf.symm
      refine ⟨?_, fun x hx => ?_⟩
      · rw [keep q]
        exact (decide_eq_false (by omega)).symm
      · rw [keep q] at hx; cases hx
    | some x =>
      have hf := hs.is
      rw [q] at hf
      have hf2 := of_decide_eq_true hf.symm
      obtain ⟨e1, e2⟩ := hs.of x q
      have h5 := h4 sd x q (fun g => by
        obtain ⟨j, hj, e⟩ := lineW_mem.1 g
        exact hsd j (by omega) e) (by rw [e1]; exact lineW_mem.2 ⟨a, by omega, rfl⟩)
      rw [e2] at h5
      by_cases g : (a : Int) + 1 < ((i + 1 : Nat) : Int) - k
      · rw [if_pos g] at h5
        refine ⟨?_, fun y hy => ?_⟩
        · rw [h5]; exact (decide_eq_false (by omega)).symm
        · rw [h5] at hy; cases hy
      · rw [if_neg g] at h5
        refine ⟨?_, fun y hy => ?_⟩
        · rw [h5]; exact (decide_eq_true (by omega)).symm
        · rw [h5] at hy; cases hy; exact ⟨e1, e2⟩
  · refine keep ?_
    have hf := hs.is
    rw [decide_eq_false (by omega)] at hf
    cases q : findK sd c.known with
    | none => rfl
    | some x => rw [q] at hf; cases hf
theorem side_add {c : Ch} {a n N : Nat} {k : Int} {sd : List Int} (hc : KOk c N) (ht : Tree c) (hN : N + 1 ≤ 100000) (hl : Line c idsF (a + 1) k 2 fun id _ => id = sd) (hno : findK sd c.known = none) (hn : a + 1 ≤ n ∧ n ≤ 40) (hk : 1 ≤ k)
    (hsd : ∀ j, j ≤ 40 → sd ≠ idI idsF j) {h : Hdr} (hh : h = ⟨idI idsF a, List.replicate 32 0, 1, (n : Int)⟩) (hid : hidOf h = sd) (hwf : h.wf) :
    (addC c h).2.2 = 0 ∧ Line (addC c h).1 idsF (a + 1) k 2 (fun id _ => id = sd) ∧ SideI (addC c h).1 sd (a + 1) a k := by
  have hp0 : h.prev = idI idsF a := by rw [hh]
  have hwork : h.work = 1 := by rw [hh]
  have hm : mayB h = true := may_of (by unfold Hdr.may; rw [hwork, show h.nonce = (n : Int) by rw [hh]]; omega)
  obtain ⟨p, hp, hpw⟩ := hl.known a (by omega)
  obtain ⟨K, hK, hKw⟩ := hl.known (a + 1) (Nat.le_refl _)
  have hwl : c.way.length = a + 1 + 1 := by rw [hl.way, lineW_len]
  have hkk := hl.k
  have htK : c.tipK = K := tipK_of (by rw [hl.tip]; exact hK)
  obtain ⟨a1, a2, a3, a4, a5, a6, a7⟩ := add_aside hc ht hN hl.calm hwf hm (by rw [hid]; exact hno) (f := a) (by rw [hl.way, hp0]; exact lineW_get idsF (by omega)) (by rw [hwl]; omega) (p := p) (by rw [hp0]; exact hp) (by rw [htK, hwork]; omega)
  rw [hid] at a5 a7
  refine ⟨a1, ⟨a2.trans hl.way, a3.trans hl.k, a4, fun j hj => ?_, fun id x hx => ?_⟩, ⟨?_, fun x hx => ?_⟩⟩
  · obtain ⟨x, hx, hxw⟩ := hl.known j hj
    exact ⟨x, a6 _ x hx (by rw [hl.way]; exact lineW_mem.2 ⟨j, hj, rfl⟩), hxw⟩
  · rcases a5 id x hx with ⟨g, _⟩ | ⟨_, g⟩
    · exact .inr g
    · exact hl.only id x g
  · rw [a7]; exact (decide_eq_true (by omega)).symm
  · rw [a7] at hx; cases hx; exact ⟨hp0, rfl⟩
end Go.Aw
