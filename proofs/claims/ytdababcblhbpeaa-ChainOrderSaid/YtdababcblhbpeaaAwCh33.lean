/-
  AwCh33: headers of one branch, and forks on it: the plain part. Own work.
-/
import Derived.Test.YtdababcblhbpeaaAwCh31
import Derived.Test.YtdababcblhbpeaaAwCh32
set_option linter.unusedVariables false
set_option linter.unusedSimpArgs false
set_option maxRecDepth 20000
open Go.Proofs
namespace Go.Aw

/-- the forks' moulds -/
def fmds (zs : List Int) (n : Nat) (m : Nat) : List Md := (List.range m).map fun (j : Nat) => (⟨zs.getD j 0 % (n : Int), ((1 + j : Nat) : Int)⟩ : Md)
@[simp] theorem fmds_len (zs : List Int) (n m : Nat) : (fmds zs n m).length = m := by simp [fmds]
theorem fmds_succ (zs : List Int) (n m : Nat) : fmds zs n (m + 1) = fmds zs n m ++ [⟨zs.getD m 0 % (n : Int), ((1 + m : Nat) : Int)⟩] := by unfold fmds; rw [List.range_succ, List.map_append]; rfl
theorem fmds_get {zs : List Int} {n m j : Nat} (h : j < m) : (fmds zs n m)[j]? = some ⟨zs.getD j 0 % (n : Int), ((1 + j : Nat) : Int)⟩ := by simp [fmds, h]
def ordM (zs : List Int) (n m : Nat) : List Md := mline 1048576 n ++ fmds zs n m
theorem ordM_len (zs : List Int) (n m : Nat) : (ordM zs n m).length = n + m := by simp [ordM]
/-- on which of the branch a fork stands -/
def onR (zs : List Int) (n i : Nat) : Nat := (zs.getD i 0 % (n : Int)).toNat
def upO (zs : List Int) (n j : Nat) : Nat := if j ≤ n then j - 1 else onR zs n (j - n - 1)
def hgO (zs : List Int) (n : Nat) (j : Nat) : Int := if j ≤ n then (j : Int) else (onR zs n (j - n - 1) : Int) + 1
def wrO (zs : List Int) (n : Nat) (j : Nat) : Int := if j ≤ n then 1 + 1048576 * (j : Int) else 1 + 1048576 * (onR zs n (j - n - 1) : Int) + ((1 + (j - n - 1) : Nat) : Int)
theorem onR_lt (zs : List Int) {n : Nat} (i : Nat) (hn : 1 ≤ n) : onR zs n i < n := by
  have h1 := Int.emod_lt_of_pos (zs.getD i 0) (show (0 : Int) < (n : Int) by omega)
  have h2 := Int.emod_nonneg (zs.getD i 0) (show ((n : Nat) : Int) ≠ 0 by omega)
  unfold onR; omega
theorem onR_eq (zs : List Int) {n : Nat} (i : Nat) (hn : 1 ≤ n) : zs.getD i 0 % (n : Int) = (onR zs n i : Int) := by
  have h2 := Int.emod_nonneg (zs.getD i 0) (show ((n : Nat) : Int) ≠ 0 by omega)
  unfold onR; omega
theorem upO_main (zs : List Int) {n j : Nat} (h : j ≤ n) : upO zs n j = j - 1 := by unfold upO; rw [if_pos h]
theorem upO_fork (zs : List Int) (n i : Nat) : upO zs n (n + 1 + i) = onR zs n i := by unfold upO; rw [if_neg (by omega), show n + 1 + i - n - 1 = i by omega]
theorem hgO_main (zs : List Int) {n j : Nat} (h : j ≤ n) : hgO zs n j = (j : Int) := by unfold hgO; rw [if_pos h]
theorem hgO_fork (zs : List Int) (n i : Nat) : hgO zs n (n + 1 + i) = (onR zs n i : Int) + 1 := by unfold hgO; rw [if_neg (by omega), show n + 1 + i - n - 1 = i by omega]
theorem wrO_main (zs : List Int) {n j : Nat} (h : j ≤ n) : wrO zs n j = 1 + 1048576 * (j : Int) := by unfold wrO; rw [if_pos h]
theorem wrO_fork (zs : List Int) (n i : Nat) : wrO zs n (n + 1 + i) = 1 + 1048576 * (onR zs n i : Int) + ((1 + i : Nat) : Int) := by unfold wrO; rw [if_neg (by omega), show n + 1 + i - n - 1 = i by omega]
theorem ord_main {zs : List Int} {n m j : Nat} (hn : 1 ≤ n ∧ n ≤ 20) (hj : j ≤ n) : idL (castA (ordM zs n m)) j = idI idsO j ∧ (0 < j → hdL (castA (ordM zs n m)) j = ⟨idI idsO (j - 1), List.replicate 32 0, 1048576, ((j - 1 : Nat) : Int)⟩) := by
  obtain ⟨h1, h2⟩ := cast_line idsO_ok (l := ordM zs n m) j (by omega) fun i hi => by
    unfold ordM
    rw [List.getElem?_append_left (by rw [mline_len]; omega)]
    exact mline_get (by omega)
  refine ⟨h1, fun q => ?_⟩
  unfold hdL
  simp only [List.getD_eq_getElem?_getD, h2 q, Option.getD_some]
theorem ord_fork {zs : List Int} {n m i : Nat} (hn : 1 ≤ n ∧ n ≤ 20) (hi : i < m) : hdL (castA (ordM zs n m)) (n + 1 + i) = fkO i (onR zs n i) n := by
  have hlt := onR_lt zs i hn.1
  have h := castA_at (l := ordM zs n m) (j := n + i) (u := onR zs n i) (wk := ((1 + i : Nat) : Int)) (by
    unfold ordM
    rw [List.getElem?_append_right (by rw [mline_len]; omega), mline_len, show n + i - n = i by omega, fmds_get hi, onR_eq zs i hn.1]) (by omega)
  have h2 := (ord_main (zs := zs) (n := n) (m := m) hn (j := onR zs n i) (by omega)).1
  unfold idL hdL at h2
  rw [h2] at h
  unfold hdL
  rw [show n + 1 + i = n + i + 1 by omega]
  simp only [List.getD_eq_getElem?_getD, h, Option.getD_some]
  rfl
theorem ord_len (zs : List Int) (n m : Nat) : (castA (ordM zs n m)).length = n + 1 + m := by rw [(castA_props _).2.1, ordM_len]; omega
theorem ord_forest {zs : List Int} {n m : Nat} (hn : 1 ≤ n ∧ n ≤ 20) (hm : m ≤ 15) : Forest (castA (ordM zs n m)) (upO zs n) (hgO zs n) (wrO zs n) := by
  have hlen := ord_len zs n m
  obtain ⟨hwf, _, h0⟩ := castA_props (ordM zs n m)
  have hM := fun j (hj : j ≤ n) => ord_main (zs := zs) (n := n) (m := m) hn hj
  have hF := fun i (hi : i < m) => ord_fork (zs := zs) (n := n) (m := m) hn hi
  have hlt := fun i => onR_lt zs i hn.1
  have cas : ∀ j, j < (castA (ordM zs n m)).length → j ≤ n ∨ ∃ i, i < m ∧ j = n + 1 + i := fun j hj => by
    rcases Nat.lt_or_ge n j with g | g
    · exact .inr ⟨j - n - 1, by omega, by omega⟩
    · exact .inl g
  have hidF : ∀ i, i < m → idL (castA (ordM zs n m)) (n + 1 + i) = hidOf (fkO i (onR zs n i) n) := fun i hi => by unfold idL; rw [hF i hi]
  refine ⟨by omega, fun j hj => ?_, fun j hj hjl => ?_, fun i j hi hj q => ?_, fun j hj hjl => ?_, fun j hj hjl => ?_, by simp [hgO], fun j hj hjl => ?_, by simp [wrO], fun j hj hjl => ?_⟩
  · unfold hdL
    simp only [List.getD_eq_getElem?_getD, List.getElem?_eq_getElem hj, Option.getD_some]
    exact hwf _ (List.getElem_mem _)
  · rcases cas j hjl with g | ⟨i, hi, rfl⟩
    · rw [(hM j g).2 hj]; exact may_of (by unfold Hdr.may; simp only []; omega)
    · rw [hF i hi]; exact may_of (by unfold Hdr.may fkO; simp only []; omega)
  · rcases cas i hi with g | ⟨a, ha, rfl⟩
    · rcases cas j hj with g2 | ⟨b, hb, rfl⟩
      · rw [(hM i g).1, (hM j g2).1] at q
        exact idsO_ok.inj i j (by omega) (by omega) q
      · rw [(hM i g).1, hidF b hb] at q
        exact absurd q.symm (fkO_main (by omega) (by have := hlt b; omega) hn (by omega))
    · rcases cas j hj with g2 | ⟨b, hb, rfl⟩
      · rw [(hM j g2).1, hidF a ha] at q
        exact absurd q (fkO_main (by omega) (by have := hlt a; omega) hn (by omega))
      · rw [hidF a ha, hidF b hb] at q
        have h1 := hlt a
        have h2 := hlt b
        rcases Nat.lt_trichotomy a b with g | g | g
        · exact absurd q.symm (fkO_apart (by omega) g (by omega) (by omega) hn)
        · rw [g]
        · exact absurd q (fkO_apart (by omega) g (by omega) (by omega) hn)
  · unfold upO
    split
    · omega
    · have := hlt (j - n - 1); omega
  · rcases cas j hjl with g | ⟨i, hi, rfl⟩
    · rw [(hM j g).2 hj]
      unfold upO
      rw [if_pos g, (hM (j - 1) (by omega)).1]
    · rw [hF i hi]
      unfold upO
      rw [if_neg (by omega), show n + 1 + i - n - 1 = i by omega, (hM (onR zs n i) (by have := hlt i; omega)).1]
      rfl
  · rcases cas j hjl with g | ⟨i, hi, rfl⟩
    · rw [upO_main zs g, hgO_main zs g, hgO_main zs (by omega)]; omega
    · have := hlt i
      rw [upO_fork, hgO_fork, hgO_main zs (by omega)]
  · rcases cas j hjl with g | ⟨i, hi, rfl⟩
    · rw [(hM j g).2 hj, upO_main zs g, wrO_main zs g, wrO_main zs (by omega)]
      simp only []
      omega
    · rw [hF i hi]
      have := hlt i
      rw [upO_fork, wrO_fork, wrO_main zs (by omega)]
      rfl
/-- a chain to which all have come -/
theorem ord_end {zs : List Int} {n m N : Nat} (hn : 1 ≤ n ∧ n ≤ 20) (hm : m ≤ 15) {c : Ch} {A : Nat → Prop} (hc : KOk c N) (ht : Tree c) (hb : BestC c (idL (castA (ordM zs n m)) 0)) (S : Sys c (castA (ordM zs n m)) (upO zs n) (hgO zs n) (wrO zs n) A) (hs : Settled c)
    (hA : ∀ j, 0 < j → j < (castA (ordM zs n m)).length → A j) : c.orphans = [] ∧ c.tip = idI idsO n ∧ c.way.length = n + 1 := by
  have F := ord_forest (zs := zs) hn hm
  have hlen := ord_len zs n m
  have hall := fun j (hj : j < (castA (ordM zs n m)).length) => all_known F S hs (m := (castA (ordM zs n m)).length) (fun j h1 h2 _ => hA j h1 h2) (fun j h1 h2 _ => by have := F.lt j h1 h2; omega) (j + 1) j (by omega) (by omega) hj
  obtain ⟨htw, K, hK, hKh⟩ := ht.tips hc.way.1
  have hM := (ord_main (zs := zs) (n := n) (m := m) hn (Nat.le_refl n)).1
  have hkn := hall n (by omega)
  rw [hM] at hkn
  obtain ⟨x, hx⟩ := Option.isSome_iff_exists.1 hkn
  obtain ⟨bx, hbx⟩ := findK_mem hx
  have hmax := hb.max _ hbx
  rw [tipK_of hK] at hmax
  simp only [] at hmax
  have key : ∀ id y, findK id c.known = some y → ∃ j, j < (castA (ordM zs n m)).length ∧ id = idL (castA (ordM zs n m)) j ∧ y.height = hgO zs n j ∧ y.work = wrO zs n j := fun id y hy => by
    obtain ⟨j, h1, _, h3, h4, h5⟩ := S.known id y hy
    exact ⟨j, h1, h3, h4, h5⟩
  obtain ⟨a, ha, e1, e2, e3⟩ := key _ _ hx
  have hna : n = a := F.inj _ _ (by omega) ha (by rw [hM, e1])
  subst hna
  obtain ⟨t, htl, f1, f2, f3⟩ := key _ _ hK
  have hw1 : wrO zs n n = 1 + 1048576 * (n : Int) := by unfold wrO; rw [if_pos (Nat.le_refl n)]
  have htn : t = n := by
    rw [e3, f3, hw1] at hmax
    unfold wrO at hmax
    split at hmax
    · omega
    · have := onR_lt zs (t - n - 1) hn.1
      omega
  subst htn
  refine ⟨?_, by rw [f1, hM], ?_⟩
  · cases ho : c.orphans with
    | nil => rfl
    | cons o r =>
      have hmem : o ∈ c.orphans := by rw [ho]; simp
      obtain ⟨j, _, hjl, _, e⟩ := S.orph o hmem
      have h1 := ht.orpn o hmem
      have h2 := hall j hjl
      rw [e] at h1
      simp only [] at h1
      rw [h1] at h2; cases h2
  · have hg1 : hgO zs t t = (t : Int) := by unfold hgO; rw [if_pos (Nat.le_refl t)]
    rw [f2, hg1] at hKh
    have := hc.way.1
    omega
/-- a new chain -/
theorem sys_new {L : List Hdr} {up : Nat → Nat} {hg wr : Nat → Int} (F : Forest L up hg wr) (h0 : hdL L 0 = gen0) (most : Int) : Sys (newC gen0 100 most) L up hg wr (fun _ => False) ∧ Settled (newC gen0 100 most) ∧ BestC (newC gen0 100 most) (idL L 0) := by
  have hi0 : idL L 0 = hidOf gen0 := by unfold idL; rw [h0]
  have hK : findK (hidOf gen0) (newC gen0 100 most).known = some ⟨gen0.prev, 0, gen0.work, 0⟩ := by
    show (if hidOf gen0 = hidOf gen0 then _ else _) = _
    rw [if_pos rfl]
  refine ⟨⟨fun id x hx => ?_, fun o ho => ?_, fun j _ _ h => h.elim, by rw [hi0, hK]; rfl⟩, fun o ho => ?_, by rw [hi0]; exact new_best gen0 most⟩
  · have hx2 : (if id = hidOf gen0 then some (⟨gen0.prev, 0, gen0.work, 0⟩ : KH) else none) = some x := hx
    split at hx2
    · rename_i q
      cases hx2
      exact ⟨0, F.pos, .inl rfl, by rw [q, hi0], by rw [F.h0], by rw [F.w0]; rfl⟩
    · cases hx2
  · cases ho
  · cases ho
theorem add_most {c : Ch} {N : Nat} (hc : KOk c N) (ht : Tree c) (hN : N + 1 ≤ 100000) (h : Hdr) (hw : h.wf) : (addC c h).1.most = c.most := by
  unfold addC
  cases c.halted with
  | true => rfl
  | false =>
    cases hmb : mayB h with
    | false => rfl
    | true =>
      have hmay := mayB_true.1 hmb
      have hwk : 1 ≤ h.work ∧ h.work ≤ 1099511627776 := by unfold Hdr.may at hmay; omega
      cases hwt : waitsB c (hidOf h) || (findK (hidOf h) c.known).isSome with
      | true => rfl
      | false =>
        rw [Bool.or_eq_false_iff] at hwt
        cases hp : findK h.prev c.known with
        | none =>
          simp only []
          cases decide ((c.orphans.length : Int) ≥ c.most) with
          | true => rfl
          | false => rfl
        | some p =>
          simp only []
          cases deepB c p.height with
          | true => rfl
          | false =>
            obtain ⟨k1, t1⟩ := takes_inv hc ht hN h hw hwk hwt.1 hwt.2 hp
            obtain ⟨_, _, _, _, hm2, _⟩ := adoptN_ok (takesC c (hidOf h) h).orphans.length (takesC c (hidOf h) h) k1 t1
            have hm3 : (adoptC (takesC c (hidOf h) h)).most = c.most := hm2
            have hm4 : (movesC (adoptC (takesC c (hidOf h) h))).most = c.most := by rw [← hm3]; unfold movesC; split <;> rfl
            simp only []
            split
            · exact hm4
            · exact hm4
/-- a chain to which some came, whichever; those of 'P' among them -/
structure AnyC (c : Ch) (zs : List Int) (n m N : Nat) (P : Nat → Prop) : Prop where
  kok : KOk c N
  tree : Tree c
  best : BestC c (idL (castA (ordM zs n m)) 0)
  most : c.most = 100
  set : Settled c
  sys : ∃ A, Sys c (castA (ordM zs n m)) (upO zs n) (hgO zs n) (wrO zs n) A ∧ ∀ j, P j → A j
theorem any_new {zs : List Int} {n m : Nat} (hn : 1 ≤ n ∧ n ≤ 20) (hm : m ≤ 15) : AnyC (newC gen0 100 100) zs n m 0 (fun _ => False) := by
  have hnb : newB gen0 100 100 = true := by
    unfold newB
    rw [show mayB gen0 = true by unfold mayB; decide, Bool.true_and]
    exact decide_eq_true (by decide)
  obtain ⟨k0, t0⟩ := new_inv gen0 100 100 gen0_wf hnb
  have h0 : hdL (castA (ordM zs n m)) 0 = gen0 := by
    unfold hdL
    simp only [List.getD_eq_getElem?_getD, (castA_props (ordM zs n m)).2.2, Option.getD_some]
  obtain ⟨S, hs, hb⟩ := sys_new (ord_forest (zs := zs) hn hm) h0 100
  exact ⟨k0, t0, hb, rfl, hs, _, S, fun j h => h⟩
theorem any_add {zs : List Int} {n m N j : Nat} (hn : 1 ≤ n ∧ n ≤ 20) (hm : m ≤ 15) {c : Ch} {P : Nat → Prop} (h : AnyC c zs n m N P) (hN : N + 1 ≤ 99) (hj : 0 < j) (hjl : j < (castA (ordM zs n m)).length) :
    AnyC (addC c (hdL (castA (ordM zs n m)) j)).1 zs n m (N + 1) (fun i => P i ∨ i = j) := by
  have F := ord_forest (zs := zs) hn hm
  obtain ⟨hc, ht, hb, hmo, hs, A, S, hA⟩ := h
  have hw := F.wf j hjl
  obtain ⟨k2, t2⟩ := adds_inv hc ht (by omega) _ hw
  have hb2 := adds_best hc ht hN _ hw hb
  have hm2 := add_most hc ht (by omega) _ hw
  obtain ⟨q1, q2, q3⟩ := add_sys F hc ht hN hb S hj hjl
  have hsum := hc.sum
  rw [hmo] at hm2
  by_cases hAj : A j
  · have e := q1 hAj
    refine ⟨k2, t2, hb2, hm2, by rw [e]; exact hs, A, by rw [e]; exact S, fun i hi => ?_⟩
    rcases hi with g | g
    · exact hA i g
    · rw [g]; exact hAj
  · cases hp : findK (hdL (castA (ordM zs n m)) j).prev c.known with
    | none =>
      have e := (q2 hAj hp).2 (by omega)
      obtain ⟨S2, s2⟩ := wait_sys F S hs hj hjl hp
      refine ⟨k2, t2, hb2, hm2, by rw [e]; exact s2, _, by rw [e]; exact S2, fun i hi => ?_⟩
      exact hi.imp (hA i) (fun q => q)
    | some p =>
      obtain ⟨_, S2, s2, _⟩ := q3 hAj (by rw [hp]; rfl)
      exact ⟨k2, t2, hb2, hm2, s2, _, S2, fun i hi => hi.imp (hA i) (fun q => q)⟩
theorem any_end {zs : List Int} {n m N : Nat} (hn : 1 ≤ n ∧ n ≤ 20) (hm : m ≤ 15) {c : Ch} {P : Nat → Prop} (h : AnyC c zs n m N P) (hP : ∀ j, 0 < j → j < (castA (ordM zs n m)).length → P j) : c.orphans = [] ∧ c.tip = idI idsO n ∧ c.way.length = n + 1 := by
  obtain ⟨hc, ht, hb, _, hs, A, S, hA⟩ := h
  exact ord_end hn hm hc ht hb S hs fun j h1 h2 => hA j (hP j h1 h2)
/-- a chain to which they came in their order -/
structure SeqC (c : Ch) (zs : List Int) (n m i : Nat) : Prop where
  kok : KOk c i
  tree : Tree c
  best : BestC c (idL (castA (ordM zs n m)) 0)
  set : Settled c
  sys : Sys c (castA (ordM zs n m)) (upO zs n) (hgO zs n) (wrO zs n) (fun j => 0 < j ∧ j ≤ i)
theorem seq_new {zs : List Int} {n m : Nat} (hn : 1 ≤ n ∧ n ≤ 20) (hm : m ≤ 15) : SeqC (newC gen0 100 100) zs n m 0 := by
  have hnb : newB gen0 100 100 = true := by
    unfold newB
    rw [show mayB gen0 = true by unfold mayB; decide, Bool.true_and]
    exact decide_eq_true (by decide)
  obtain ⟨k0, t0⟩ := new_inv gen0 100 100 gen0_wf hnb
  have h0 : hdL (castA (ordM zs n m)) 0 = gen0 := by
    unfold hdL
    simp only [List.getD_eq_getElem?_getD, (castA_props (ordM zs n m)).2.2, Option.getD_some]
  obtain ⟨S, hs, hb⟩ := sys_new (ord_forest (zs := zs) hn hm) h0 100
  have e : (fun (j : Nat) => 0 < j ∧ j ≤ 0) = fun _ => False := by funext j; exact propext ⟨fun h => by omega, fun h => h.elim⟩
  exact ⟨k0, t0, hb, hs, by rw [e]; exact S⟩
theorem seq_add {zs : List Int} {n m i : Nat} (hn : 1 ≤ n ∧ n ≤ 20) (hm : m ≤ 15) {c : Ch} (h : SeqC c zs n m i) (hi : i + 1 < (castA (ordM zs n m)).length) :
    (addC c (hdL (castA (ordM zs n m)) (i + 1))).2.2 = 0 ∧ SeqC (addC c (hdL (castA (ordM zs n m)) (i + 1))).1 zs n m (i + 1) := by
  have F := ord_forest (zs := zs) hn hm
  obtain ⟨hc, ht, hb, hs, S⟩ := h
  have hlen := ord_len zs n m
  have hw := F.wf (i + 1) hi
  obtain ⟨k2, t2⟩ := adds_inv hc ht (by omega) _ hw
  have hb2 := adds_best hc ht (by omega) _ hw hb
  obtain ⟨_, _, q3⟩ := add_sys F hc ht (by omega) hb S (j := i + 1) (by omega) hi
  have hlt := F.lt (i + 1) (by omega) hi
  have hk := all_known F S hs (m := i) (fun j h1 _ h3 => ⟨h1, h3⟩) (fun j h1 h2 h3 => by have := F.lt j h1 h2; omega) (upO zs n (i + 1) + 1) (upO zs n (i + 1)) (by omega) (by omega) (by omega)
  obtain ⟨r1, r2, r3, _⟩ := q3 (by omega) (by rw [F.prev (i + 1) (by omega) hi]; exact hk)
  have e : (fun (j : Nat) => (0 < j ∧ j ≤ i) ∨ j = i + 1) = fun j => 0 < j ∧ j ≤ i + 1 := by funext j; exact propext ⟨fun h => by omega, fun h => by omega⟩
  exact ⟨r1, k2, t2, hb2, r3, by rw [← e]; exact r2⟩
theorem seq_end {zs : List Int} {n m : Nat} (hn : 1 ≤ n ∧ n ≤ 20) (hm : m ≤ 15) {c : Ch} (h : SeqC c zs n m (n + m)) : c.orphans = [] ∧ c.tip = idI idsO n ∧ c.way.length = n + 1 := by
  obtain ⟨hc, ht, hb, hs, S⟩ := h
  have hlen := ord_len zs n m
  exact ord_end hn hm hc ht hb S hs fun j h1 h2 => ⟨h1, by omega⟩
end Go.Aw
