/-
  AwCh15: a header is added: the plain part. Own work.
-/
import Derived.Test.YtdababcblhbpeaaAwCh13
import Derived.Test.YtdababcblhbpeaaM7
set_option linter.unusedVariables false
set_option linter.unusedSimpArgs false
set_option maxRecDepth 20000
open Go.Proofs
namespace Go.Aw

theorem rowO_snoc (l : List (List Int × Hdr)) (n : Nat) (id : List Int) (h : Hdr) (hn : n = l.length) : (List.drop 0 (rowO l)).take n ++ List.take 1 (List.drop 0 [(AV.agg [AV.ints .u8 32 id, AV.ints .u8 32 h.prev, AV.ints .u8 32 h.root, AV.int .i64 h.work, AV.int .i64 h.nonce]).segs]) = rowO (l ++ [(id, h)]) := by
  subst hn
  rw [List.drop_zero, List.take_of_length_le (by simp)]; simp [rowO, AV.segs]
theorem KOk.up {c : Ch} {N N' : Nat} (h : KOk c N) (h1 : N ≤ N') (h2 : N' ≤ 100000) : KOk c N' :=
  ⟨h.hk, h.way, h.lens, h.ids, h.prevs, h.hts, h.works, h.orps, h.owrk, by have := h.sum; omega⟩
theorem KOk.halt {c : Ch} {N : Nat} (h : KOk c N) : KOk { c with halted := true } N :=
  ⟨h.hk, h.way, h.lens, h.ids, h.prevs, h.hts, h.works, h.orps, h.owrk, h.sum⟩
theorem Tree.halt {c : Ch} (h : Tree c) : Tree { c with halted := true } :=
  ⟨h.born, h.stamps, h.keys, h.cames, h.camel, h.zero, h.prev, h.way, h.orpn, h.orpd, h.omay, h.size⟩
theorem moves_inv {c : Ch} {N : Nat} (hc : KOk c N) (ht : Tree c) : KOk (movesC c) N ∧ Tree (movesC c) := by
  unfold movesC
  split
  · exact ⟨hc.halt, ht.halt⟩
  · obtain ⟨hfl, hfh, hfw⟩ := fork_ok ht hc
    have hcl := ups_ok ht hc
    have hWl : (c.way.take (c.fork + 1)).length = c.fork + 1 := by rw [List.length_take]; omega
    have hlow : ∀ i, i < c.fork + 1 → (c.way.take (c.fork + 1) ++ c.ups.reverse)[i]? = c.way[i]? := fun i hi => by
      rw [List.getElem?_append_left (by omega), List.getElem?_take, if_pos hi]
    have hhigh : ∀ j, (c.way.take (c.fork + 1) ++ c.ups.reverse)[c.fork + 1 + j]? = c.ups.reverse[j]? := fun j => by
      rw [List.getElem?_append_right (by omega), hWl, show c.fork + 1 + j - (c.fork + 1) = j by omega]
    have hupl : c.fork + c.ups.length ≤ c.came := by
      obtain ⟨y, hy, x, hx, hxy⟩ := hcl.hgt
      have h1 : hgtOf c c.forkId = y.height := by unfold hgtOf; rw [hy]; rfl
      obtain ⟨b2, hb2⟩ := findK_mem hx
      have h2 := hc.hts _ hb2
      simp only [] at h2
      omega
    have hups : ∀ x ∈ c.ups, x.length = 32 := by
      intro x hx
      obtain ⟨j, hj⟩ := List.getElem?_of_mem (List.mem_reverse.2 hx)
      obtain ⟨y, hy, _⟩ := hcl.step j x hj
      obtain ⟨b, hb⟩ := findK_mem hy
      exact hc.ids _ hb
    refine ⟨⟨hc.hk, ⟨?_, ?_⟩, ?_, hc.ids, hc.prevs, hc.hts, hc.works, hc.orps, hc.owrk, hc.sum⟩, ⟨ht.born, ht.stamps, ht.keys, ht.cames, ht.camel, ?_, ht.prev, ?_, ht.orpn, ht.orpd, ht.omay, ht.size⟩⟩
    · simp only [List.length_append, hWl]; omega
    · simp only [List.length_append, hWl, List.length_reverse]; omega
    · intro x hx
      rcases List.mem_append.1 hx with g | g
      · exact hc.lens x (List.mem_of_mem_take g)
      · exact hups x (List.mem_reverse.1 g)
    · intro e he hz
      have := ht.zero e he hz
      simp only []
      rw [hlow 0 (by omega)]; exact this
    · intro i id hi
      simp only [] at hi ⊢
      rcases Nat.lt_or_ge i (c.fork + 1) with g | g
      · rw [hlow i g] at hi
        obtain ⟨x, h1, h2, h3⟩ := ht.way i id hi
        exact ⟨x, h1, h2, fun h0 => by rw [hlow (i - 1) (by omega)]; exact h3 h0⟩
      · obtain ⟨j, rfl⟩ : ∃ j, i = c.fork + 1 + j := ⟨i - (c.fork + 1), by omega⟩
        rw [hhigh] at hi
        obtain ⟨y, h1, h2, _, h3⟩ := hcl.step j id hi
        refine ⟨y, h1, by omega, fun _ => ?_⟩
        rcases h3 with ⟨h4, h5⟩ | ⟨h4, h5⟩
        · subst h4
          rw [show c.fork + 1 + 0 - 1 = c.fork by omega, hlow c.fork (by omega), h5]; exact hfw
        · rw [show c.fork + 1 + j - 1 = c.fork + 1 + (j - 1) by omega, hhigh]; exact h5
/-- what is left is what is not gone -/
theorem findK_filter {p : List Int → Bool} {l : List (Nat × List Int × KH)} (hn : (l.map (·.2.1)).Nodup) {id : List Int} {x : KH} (h : findK id l = some x) (hp : p id = true) : findK id (l.filter fun e => p e.2.1) = some x := by
  obtain ⟨b, hb⟩ := findK_mem h
  exact findK_get ((List.filter_sublist.map _).nodup hn) (List.mem_filter.2 ⟨hb, hp⟩)
theorem findK_filter_of {p : List Int → Bool} {l : List (Nat × List Int × KH)} (hn : (l.map (·.2.1)).Nodup) {id : List Int} {x : KH} (h : findK id (l.filter fun e => p e.2.1) = some x) : findK id l = some x ∧ p id = true := by
  obtain ⟨b, hb⟩ := findK_mem h
  obtain ⟨h1, h2⟩ := List.mem_filter.1 hb
  exact ⟨findK_get hn h1, h2⟩
theorem Tree.on_way {c : Ch} {N : Nat} (ht : Tree c) (hc : KOk c N) {i : Nat} {id : List Int} (h : c.way[i]? = some id) : onB c id = true := by
  obtain ⟨x, h1, h2, _⟩ := ht.way i id h
  exact (onB_iff hc).2 ⟨x, h1, by rw [h2, Int.toNat_natCast]; exact h⟩
theorem on_ngone {c : Ch} {N : Nat} (ht : Tree c) (hc : KOk c N) {id : List Int} (h : onB c id = true) : goneB c id = false := by
  obtain ⟨x, h1, _⟩ := (onB_iff hc).1 h
  rw [goneB_eq ht hc h1, h]; rfl
theorem forgets_inv {c : Ch} {N : Nat} (hc : KOk c N) (ht : Tree c) : KOk (forgetsC c) N ∧ Tree (forgetsC c) := by
  have hsub : (forgetsC c).known.Sublist c.known := List.filter_sublist
  have hm : ∀ e, e ∈ (forgetsC c).known → e ∈ c.known ∧ goneB c e.2.1 = false := fun e he => by
    obtain ⟨h1, h2⟩ := List.mem_filter.1 he
    exact ⟨h1, by simpa using h2⟩
  have hget : ∀ id x, findK id c.known = some x → goneB c id = false → findK id (forgetsC c).known = some x := fun id x h1 h2 => findK_filter (p := fun i => !goneB c i) ht.keys h1 (by rw [h2]; rfl)
  refine ⟨⟨hc.hk, hc.way, hc.lens, fun e he => hc.ids e (hm e he).1, fun e he => hc.prevs e (hm e he).1, fun e he => hc.hts e (hm e he).1, fun e he => hc.works e (hm e he).1, hc.orps, hc.owrk, hc.sum⟩,
    ⟨fun e he => ht.born e (hm e he).1, (hsub.map _).nodup ht.stamps, (hsub.map _).nodup ht.keys, fun e he e' he' => ht.cames e (hm e he).1 e' (hm e' he').1, fun e he => ht.camel e (hm e he).1, fun e he => ht.zero e (hm e he).1, ?_, ?_, ?_, ht.orpd, ht.omay, ?_⟩⟩
  · intro e he hz
    obtain ⟨h1, h2⟩ := hm e he
    obtain ⟨p, hp, hph⟩ := ht.prev e h1 hz
    have hk := findK_get ht.keys (show (e.1, e.2.1, e.2.2) ∈ c.known from h1)
    refine ⟨p, hget _ _ hp ?_, hph⟩
    cases ho : onB c e.2.1 with
    | false =>
      rw [goneB_eq ht hc hk, ho] at h2
      have h3 : (deepB c e.2.2.height || goneB c e.2.2.prev) = false := by simpa using h2
      rw [Bool.or_eq_false_iff] at h3
      exact h3.2
    | true =>
      obtain ⟨x, hx, hw⟩ := (onB_iff hc).1 ho
      rw [hk] at hx; cases hx
      obtain ⟨x2, hx2, hh2, hpv⟩ := ht.way _ _ hw
      rw [hk] at hx2; cases hx2
      exact on_ngone ht hc (ht.on_way hc (hpv (by omega)))
  · intro i id hi
    obtain ⟨x, h1, h2⟩ := ht.way i id hi
    exact ⟨x, hget _ _ h1 (on_ngone ht hc (ht.on_way hc hi)), h2⟩
  · intro o ho
    rw [findK_none]
    intro e he
    exact findK_none.1 (ht.orpn o ho) e (hm e he).1
  · have := hsub.length_le
    have := ht.size
    show ((forgetsC c).known.length : Int) ≤ c.came + 1
    omega

theorem idxF_none_of {p : List Int × Hdr → Bool} : ∀ {l : List (List Int × Hdr)}, idxF p l = none → ∀ (j : Nat) x, l[j]? = some x → p x = false
  | [], _, j, x, h => by simp at h
  | a :: r, h, j, x, hx => by
    simp only [idxF] at h
    cases ha : p a with
    | true => rw [ha] at h; cases h
    | false =>
      rw [ha] at h
      cases j with
      | zero => simp at hx; rw [← hx]; exact ha
      | succ j => exact idxF_none_of (l := r) (by simpa using h) j x (by simpa using hx)
/-- what Add does: the chain, the events, the error's number -/
def addC (c : Ch) (h : Hdr) : Ch × List Ev × Int := match c.halted with
  | true => (c, [], 9)
  | false => match mayB h with
    | false => (c, [], 1)
    | true => match waitsB c (hidOf h) || (findK (hidOf h) c.known).isSome with
      | true => (c, [], 6)
      | false => match findK h.prev c.known with
        | none => match decide ((c.orphans.length : Int) ≥ c.most) with
          | true => (c, [], 4)
          | false => ({ c with orphans := c.orphans ++ [(hidOf h, h)] }, [], 0)
        | some p => match deepB c p.height with
          | true => (c, [], 8)
          | false => (match (adoptC (takesC c (hidOf h) h)).stops with
              | true => movesC (adoptC (takesC c (hidOf h) h))
              | false => forgetsC (movesC (adoptC (takesC c (hidOf h) h))), movesE (adoptC (takesC c (hidOf h) h)), movesN (adoptC (takesC c (hidOf h) h)))
theorem takes_inv {c : Ch} {N : Nat} (hc : KOk c N) (ht : Tree c) (hN : N + 1 ≤ 100000) (h : Hdr) (hw : h.wf) (hwk : 1 ≤ h.work ∧ h.work ≤ 1099511627776) (hw1 : waitsB c (hidOf h) = false) (hk1 : (findK (hidOf h) c.known).isSome = false) {p : KH} (hp : findK h.prev c.known = some p) :
    KOk (takesC c (hidOf h) h) (N + 1) ∧ Tree (takesC c (hidOf h) h) := by
  have hc1 := hc.up (Nat.le_succ N) hN
  have hs := hc.sum
  have hkn : findK (hidOf h) c.known = none := by simpa using hk1
  have hor : ∀ o ∈ c.orphans, o.1 ≠ hidOf h := by
    intro o ho heq
    unfold waitsB at hw1
    have : idxF (sameId (hidOf h)) c.orphans = none := by
      cases hx : idxF (sameId (hidOf h)) c.orphans with
      | none => rfl
      | some i =>
        have : idxI (sameId (hidOf h)) c.orphans = (i : Int) := by unfold idxI; rw [hx]
        rw [this] at hw1
        simp at hw1
    obtain ⟨i, hi⟩ := List.getElem?_of_mem ho
    have hno := idxF_none_of this i o hi
    unfold sameId at hno
    simp [heq] at hno
  exact ⟨hc1.takes (hid_len h) hw (by omega) (by omega), ht.takes hkn hor hp hwk.1 (fun e he => (hc.hts e he).1)⟩
/-- a chain that goes on is a tree, within its bounds -/
theorem adds_inv {c : Ch} {N : Nat} (hc : KOk c N) (ht : Tree c) (hN : N + 1 ≤ 100000) (h : Hdr) (hw : h.wf) : KOk (addC c h).1 (N + 1) ∧ Tree (addC c h).1 := by
  have hc1 := hc.up (Nat.le_succ N) hN
  have hs := hc.sum
  unfold addC
  cases c.halted with
  | true => exact ⟨hc1, ht⟩
  | false =>
    cases hmb : mayB h with
    | false => exact ⟨hc1, ht⟩
    | true =>
      have hmay := mayB_true.1 hmb
      have hwk : 1 ≤ h.work ∧ h.work ≤ 1099511627776 := by unfold Hdr.may at hmay; omega
      cases hwt : waitsB c (hidOf h) || (findK (hidOf h) c.known).isSome with
      | true => exact ⟨hc1, ht⟩
      | false =>
        rw [Bool.or_eq_false_iff] at hwt
        have hkn : findK (hidOf h) c.known = none := by simpa using hwt.2
        have hor : ∀ o ∈ c.orphans, o.1 ≠ hidOf h := by
          intro o ho heq
          have hw1 := hwt.1
          unfold waitsB at hw1
          have : idxF (sameId (hidOf h)) c.orphans = none := by
            cases hx : idxF (sameId (hidOf h)) c.orphans with
            | none => rfl
            | some i =>
              have : idxI (sameId (hidOf h)) c.orphans = (i : Int) := by unfold idxI; rw [hx]
              rw [this] at hw1
              simp at hw1
          obtain ⟨i, hi⟩ := List.getElem?_of_mem ho
          have hno := idxF_none_of this i o hi
          unfold sameId at hno
          simp [heq] at hno
        cases hp : findK h.prev c.known with
        | none =>
          simp only []
          cases decide ((c.orphans.length : Int) ≥ c.most) with
          | true => exact ⟨hc1, ht⟩
          | false =>
            have hm : ∀ o, o ∈ c.orphans ++ [(hidOf h, h)] → o ∈ c.orphans ∨ o = (hidOf h, h) := fun o ho => by
              rcases List.mem_append.1 ho with g | g
              · exact .inl g
              · exact .inr (by simpa using g)
            refine ⟨⟨hc.hk, hc.way, hc.lens, hc.ids, hc.prevs, hc.hts, hc.works, fun o ho => ?_, fun o ho => ?_, ?_⟩, ⟨ht.born, ht.stamps, ht.keys, ht.cames, ht.camel, ht.zero, ht.prev, ht.way, fun o ho => ?_, ?_, fun o ho => ?_, ht.size⟩⟩
            · rcases hm o ho with g | g
              · exact hc.orps o g
              · subst g; exact ⟨hid_len h, hw⟩
            · rcases hm o ho with g | g
              · exact hc.owrk o g
              · subst g; simp only []; omega
            · simp only [List.length_append, List.length_cons, List.length_nil]; omega
            · rcases hm o ho with g | g
              · exact ht.orpn o g
              · subst g; exact hkn
            · simp only [List.map_append, List.map_cons, List.map_nil]
              rw [List.nodup_append]
              refine ⟨ht.orpd, by simp, ?_⟩
              intro a ha b hb
              simp at hb
              obtain ⟨o, ho, rfl⟩ := List.mem_map.1 ha
              rw [hb]; exact hor o ho
            · rcases hm o ho with g | g
              · exact ht.omay o g
              · subst g; exact hwk.1
        | some p =>
          simp only []
          cases deepB c p.height with
          | true => exact ⟨hc1, ht⟩
          | false =>
            have k1 : KOk (takesC c (hidOf h) h) (N + 1) := hc1.takes (hid_len h) hw (by omega) (by omega)
            have t1 : Tree (takesC c (hidOf h) h) := ht.takes hkn hor hp hwk.1 (fun e he => (hc.hts e he).1)
            obtain ⟨k2, t2, _⟩ := adoptN_ok (takesC c (hidOf h) h).orphans.length (takesC c (hidOf h) h) k1 t1
            have k2' : KOk (adoptC (takesC c (hidOf h) h)) (N + 1) := k2
            have t2' : Tree (adoptC (takesC c (hidOf h) h)) := t2
            obtain ⟨k3, t3⟩ := moves_inv k2' t2'
            simp only []
            cases (adoptC (takesC c (hidOf h) h)).stops with
            | true => exact ⟨k3, t3⟩
            | false => exact forgets_inv k3 t3
end Go.Aw
