/-
  AwCh25: a header is added to a chain on which none waits: the plain part. Own work.
-/
import Derived.Test.YtdababcblhbpeaaAwCh23
set_option linter.unusedVariables false
set_option linter.unusedSimpArgs false
set_option maxRecDepth 20000
open Go.Proofs
namespace Go.Aw

theorem adopt_nil (c : Ch) (h : c.orphans = []) : adoptC c = c := by unfold adoptC; rw [h]; rfl
theorem waits_nil (c : Ch) (h : c.orphans = []) (id : List Int) : waitsB c id = false := by
  unfold waitsB; rw [h]; exact decide_eq_false (by simp [idxI, idxF])
theorem deep_false {c : Ch} {n : Int} (h : (c.way.length : Int) - 1 - c.k ≤ n) : deepB c n = false := by
  unfold deepB; exact decide_eq_false (by omega)
theorem deep_true {c : Ch} {n : Int} (h : n < (c.way.length : Int) - 1 - c.k) : deepB c n = true := by
  unfold deepB; exact decide_eq_true h
theorem takes_known {c : Ch} {id : List Int} {h : Hdr} (hn : findK id c.known = none) : (takesC c id h).known = c.known ++ [(c.clock, id, newK c h)] := by
  show insK id (newK c h) c.clock c.known = _
  exact insK_new hn
theorem takes_find {c : Ch} {id : List Int} {h : Hdr} (hn : findK id c.known = none) (i : List Int) : findK i (takesC c id h).known = if i = id then some (newK c h) else findK i c.known := by
  rw [takes_known hn, findK_app]
  by_cases q : i = id
  · rw [if_pos q, q, hn]; simp [findK]
  · rw [if_neg q]
    cases findK i c.known with
    | some x => rfl
    | none => simp [findK, q]
/-- what is left behind a move -/
theorem left_known {c : Ch} {N : Nat} (hc : KOk c N) (ht : Tree c) {id : List Int} {x : KH} (h : findK id c.known = some x) (hid : id ∉ c.way) (hp : x.prev ∈ c.way) :
    findK id (forgetsC c).known = if x.height < (c.way.length : Int) - 1 - c.k then none else some x := by
  have ho : onB c id = false := by
    cases q : onB c id with
    | false => rfl
    | true =>
      obtain ⟨y, _, hy⟩ := (onB_iff hc).1 q
      exact absurd (List.mem_of_getElem? hy) hid
  obtain ⟨j, hj⟩ := List.getElem?_of_mem hp
  have hpg := on_ngone ht hc (ht.on_way hc hj)
  have hg : goneB c id = deepB c x.height := by rw [goneB_eq ht hc h, ho, hpg]; simp
  have hkn : (forgetsC c).known = c.known.filter fun e => !goneB c e.2.1 := rfl
  by_cases q : x.height < (c.way.length : Int) - 1 - c.k
  · rw [if_pos q]
    rw [deep_true q] at hg
    rw [hkn, findK_none]
    intro e he e2
    have := (List.mem_filter.1 he).2
    rw [e2, hg] at this
    cases this
  · rw [if_neg q]
    rw [deep_false (by omega)] at hg
    exact findK_filter (p := fun i => !goneB c i) ht.keys h (by simp only [hg]; rfl)
theorem left_way {c : Ch} {N : Nat} (hc : KOk c N) (ht : Tree c) {id : List Int} {x : KH} (h : findK id c.known = some x) (hid : id ∈ c.way) : findK id (forgetsC c).known = some x := by
  obtain ⟨j, hj⟩ := List.getElem?_of_mem hid
  have hpg := on_ngone ht hc (ht.on_way hc hj)
  exact findK_filter (p := fun i => !goneB c i) ht.keys h (by simp only [hpg]; rfl)
theorem left_of {c : Ch} (ht : Tree c) {id : List Int} {x : KH} (h : findK id (forgetsC c).known = some x) : findK id c.known = some x :=
  (findK_filter_of (p := fun i => !goneB c i) ht.keys h).1

theorem add_take {c : Ch} {h : Hdr} (hm : mayB h = true) (hgo : c.halted = false) (ho : c.orphans = []) (hn : findK (hidOf h) c.known = none) {p : KH} (hp : findK h.prev c.known = some p)
    (hd : deepB c p.height = false) (hs : (takesC c (hidOf h) h).stops = false) :
    addC c h = (forgetsC (movesC (takesC c (hidOf h) h)), movesE (takesC c (hidOf h) h), movesN (takesC c (hidOf h) h)) := by
  have ha : adoptC (takesC c (hidOf h) h) = takesC c (hidOf h) h := adopt_nil _ ho
  unfold addC
  rw [hgo, hm, waits_nil c ho, hn, hp]
  simp only [Option.isSome_none, Bool.or_false]
  rw [hd]
  simp only []
  rw [ha, hs]
/-- a header on one that is too deep -/
theorem add_old {c : Ch} {h : Hdr} (hm : mayB h = true) (hgo : c.halted = false) (ho : c.orphans = []) (hn : findK (hidOf h) c.known = none) {p : KH} (hp : findK h.prev c.known = some p)
    (hd : deepB c p.height = true) : addC c h = (c, [], 8) := by
  unfold addC
  rw [hgo, hm, waits_nil c ho, hn, hp]
  simp only [Option.isSome_none, Bool.or_false]
  rw [hd]

/-- what an added header leaves behind: nothing waits, and the tip is the best -/
structure Calm (c : Ch) : Prop where
  go : c.halted = false
  orp : c.orphans = []
  max : ∀ e ∈ c.known, betterK e.2.2 c.tipK = false
/-- the new one is the best -/
theorem add_over {c : Ch} {N : Nat} (hc : KOk c N) (ht : Tree c) (hN : N + 1 ≤ 100000) (hca : Calm c) {h : Hdr} (hw : h.wf) (hm : mayB h = true) (hn : findK (hidOf h) c.known = none)
    {f : Nat} (hf : c.way[f]? = some h.prev) (hd : (c.way.length : Int) - 1 - f ≤ c.k) {p : KH} (hp : findK h.prev c.known = some p) (hbig : c.tipK.work < p.work + h.work) :
    (addC c h).2.2 = 0 ∧ (addC c h).2.1 = evDown c.way f (c.way.length - 1 - f) ++ [⟨1, hidOf h, ((f + 1 : Nat) : Int)⟩] ∧ (addC c h).1.way = c.way.take (f + 1) ++ [hidOf h] ∧ (addC c h).1.k = c.k ∧ Calm (addC c h).1 ∧
    (∀ id x, findK id (addC c h).1.known = some x → (id = hidOf h ∧ x = ⟨h.prev, (f + 1 : Nat), p.work + h.work, c.came + 1⟩) ∨ (id ≠ hidOf h ∧ findK id c.known = some x)) ∧
    (∀ id x, findK id c.known = some x → id ≠ hidOf h → id ∈ (addC c h).1.way → findK id (addC c h).1.known = some x) ∧
    (findK (hidOf h) (addC c h).1.known = some ⟨h.prev, (f + 1 : Nat), p.work + h.work, c.came + 1⟩) ∧
    (∀ id x, findK id c.known = some x → id ∉ (addC c h).1.way → x.prev ∈ (addC c h).1.way → findK id (addC c h).1.known = if x.height < ((addC c h).1.way.length : Int) - 1 - c.k then none else some x) := by
  have hmay := mayB_true.1 hm
  have hwk : 1 ≤ h.work ∧ h.work ≤ 1099511627776 := by unfold Hdr.may at hmay; omega
  have hfl : f < c.way.length := (List.getElem?_eq_some_iff.1 hf).1
  obtain ⟨x0, hx0, hxh, _⟩ := ht.way f _ hf
  rw [hp] at hx0; cases hx0
  have hdf : deepB c p.height = false := deep_false (by rw [hxh]; omega)
  obtain ⟨k1, t1⟩ := takes_inv hc ht hN h hw hwk (waits_nil c hca.orp _) (by rw [hn]; rfl) hp
  obtain ⟨id, hid⟩ : ∃ id, hidOf h = id := ⟨_, rfl⟩
  have hnK : newK c h = ⟨h.prev, (f + 1 : Nat), p.work + h.work, c.came + 1⟩ := by
    unfold newK; rw [hp]; simp only [Option.getD_some]; rw [hxh]; rfl
  have hTF := fun i => takes_find (h := h) hn i
  have hTA := add_take hm hca.go hca.orp hn hp hdf
  rw [hid] at k1 t1 hn hTF hTA
  obtain ⟨c1, hc1⟩ : ∃ c1, takesC c id h = c1 := ⟨_, rfl⟩
  have hway1 : c1.way = c.way := by rw [← hc1]; rfl
  have hk1 : c1.k = c.k := by rw [← hc1]; rfl
  have hgo1 : c1.halted = false := by rw [← hc1]; exact hca.go
  have horp1 : c1.orphans = [] := by rw [← hc1]; exact hca.orp
  have hkn1 : c1.known = c.known ++ [(c.clock, id, newK c h)] := by rw [← hc1]; exact takes_known hn
  rw [hc1] at k1 t1 hTF hTA
  rw [hid]
  have hid1 : findK id c1.known = some (newK c h) := by rw [hTF, if_pos rfl]
  have hne : h.prev ≠ id := fun q => by rw [q, hn] at hp; cases hp
  have hpr1 : findK h.prev c1.known = some p := by rw [hTF, if_neg hne]; exact hp
  have hnw : id ∉ c.way := fun q => by
    obtain ⟨j, hj⟩ := List.getElem?_of_mem q
    obtain ⟨x, hx, _⟩ := ht.way j id hj
    rw [hn] at hx; cases hx
  have hbest : c1.best = id := by
    refine t1.best_one k1.way.1 (b := c.clock) (x := newK c h) (by rw [hkn1]; simp) fun e he => ?_
    rw [hkn1] at he
    rcases List.mem_append.1 he with g | g
    · have := (betterK_false.1 (hca.max e g)).1
      exact betterK_false.2 ⟨by rw [hnK]; simp only []; omega, fun q => by rw [hnK] at q; simp only [] at q; omega⟩
    · simp only [List.mem_singleton] at g
      rw [g]
      exact betterK_false.2 ⟨Int.le_refl _, fun _ => Int.le_refl _⟩
  have hon : onB c1 id = false := by
    cases q : onB c1 id with
    | false => rfl
    | true =>
      obtain ⟨y, _, hy⟩ := (onB_iff k1).1 q
      rw [hway1] at hy
      exact absurd (List.mem_of_getElem? hy) hnw
  have hop : onB c1 h.prev = true := t1.on_way k1 (i := f) (by rw [hway1]; exact hf)
  have hhg : hgtOf c1 c1.best = ((f + 1 : Nat) : Int) := by unfold hgtOf; rw [hbest, hid1, hnK]; rfl
  have hpo : prevOf c1 id = h.prev := by unfold prevOf; rw [hid1, hnK]; rfl
  have hcl : climb ((hgtOf c1 c1.best).toNat + 1) c1 c1.best = ([id], h.prev) := by
    rw [hhg, hbest]
    show climb (f + 1 + 1) c1 id = _
    simp only [climb]
    rw [hon]
    simp only []
    rw [hpo, hop]
  have hups : c1.ups = [id] := by unfold Ch.ups; rw [hcl]
  have hfid : c1.forkId = h.prev := by unfold Ch.forkId; rw [hcl]
  have hfk : c1.fork = f := by unfold Ch.fork hgtOf; rw [hfid, hpr1]; simp only [Option.getD_some]; omega
  have hst : c1.stops = false := by unfold Ch.stops; rw [hfk, hway1, hk1]; exact decide_eq_false (by omega)
  have hA := hTA hst
  have hmC : movesC c1 = { c1 with way := c.way.take (f + 1) ++ [id] } := by unfold movesC; rw [hst, hfk, hups, hway1]; rfl
  have hmE : movesE c1 = evDown c.way f (c.way.length - 1 - f) ++ [⟨1, id, ((f + 1 : Nat) : Int)⟩] := by unfold movesE; rw [hst, hfk, hups, hway1]; rfl
  have hmN : movesN c1 = 0 := by unfold movesN; rw [hst]
  obtain ⟨k2, t2⟩ := moves_inv k1 t1
  obtain ⟨k3, t3⟩ := forgets_inv k2 t2
  rw [hA]
  simp only []
  obtain ⟨c2, hc2⟩ : ∃ c2, movesC c1 = c2 := ⟨_, rfl⟩
  have hway2 : c2.way = c.way.take (f + 1) ++ [id] := by rw [← hc2, hmC]
  have hk2 : c2.k = c.k := by rw [← hc2, hmC]; exact hk1
  have hgo2 : c2.halted = false := by rw [← hc2, hmC]; exact hgo1
  have horp2 : c2.orphans = [] := by rw [← hc2, hmC]; exact horp1
  have hkn2 : c2.known = c1.known := by rw [← hc2, hmC]
  rw [hc2] at k2 t2 k3 t3 ⊢
  have hTl : (c.way.take (f + 1)).length = f + 1 := by rw [List.length_take]; omega
  have htip : (forgetsC c2).tip = id := by
    unfold Ch.tip
    show c2.way.getD (c2.way.length - 1) [] = id
    rw [hway2, List.length_append, hTl]
    simp [List.getD_eq_getElem?_getD, hTl]
  have hidw : id ∈ c2.way := by rw [hway2]; simp
  have hidF : findK id (forgetsC c2).known = some ⟨h.prev, (f + 1 : Nat), p.work + h.work, c.came + 1⟩ := left_way k2 t2 (by rw [hkn2, hid1, hnK]) hidw
  refine ⟨hmN, hmE, hway2, hk2, ⟨hgo2, horp2, ?_⟩, ?_, ?_, hidF, ?_⟩
  · intro e he
    have hK : (forgetsC c2).tipK = newK c h := by rw [tipK_of (K := newK c h)]; rw [htip, hnK]; exact hidF
    rw [hK]
    have he2 : e ∈ c1.known := by
      have : e ∈ c2.known := (List.mem_filter.1 he).1
      rw [hkn2] at this; exact this
    obtain ⟨x, hx, hb⟩ := t1.best_in k1.way.1
    rw [hbest, hid1] at hx
    cases hx
    exact hb e he2
  · intro i x hx
    have h1 := left_of t2 hx
    rw [hkn2, hTF] at h1
    by_cases q : i = id
    · rw [if_pos q] at h1
      exact .inl ⟨q, by rw [← hnK]; exact (Option.some.inj h1).symm⟩
    · rw [if_neg q] at h1
      exact .inr ⟨q, h1⟩
  · intro i x hx hi hiw
    exact left_way k2 t2 (by rw [hkn2, hTF, if_neg hi]; exact hx) hiw
  · intro i x hx hiw hpw
    have hine : i ≠ id := fun q => hiw (by rw [q]; exact hidw)
    have := left_known k2 t2 (id := i) (x := x) (by rw [hkn2, hTF, if_neg hine]; exact hx) hiw hpw
    rw [hk2] at this
    exact this
/-- the new one stands aside -/
theorem add_aside {c : Ch} {N : Nat} (hc : KOk c N) (ht : Tree c) (hN : N + 1 ≤ 100000) (hca : Calm c) {h : Hdr} (hw : h.wf) (hm : mayB h = true) (hn : findK (hidOf h) c.known = none)
    {f : Nat} (hf : c.way[f]? = some h.prev) (hd : (c.way.length : Int) - 1 - f ≤ c.k) {p : KH} (hp : findK h.prev c.known = some p) (hsmall : p.work + h.work ≤ c.tipK.work) :
    (addC c h).2.2 = 0 ∧ (addC c h).1.way = c.way ∧ (addC c h).1.k = c.k ∧ Calm (addC c h).1 ∧
    (∀ id x, findK id (addC c h).1.known = some x → (id = hidOf h ∧ x = ⟨h.prev, (f + 1 : Nat), p.work + h.work, c.came + 1⟩) ∨ (id ≠ hidOf h ∧ findK id c.known = some x)) ∧
    (∀ id x, findK id c.known = some x → id ∈ c.way → findK id (addC c h).1.known = some x) ∧
    (findK (hidOf h) (addC c h).1.known = some ⟨h.prev, (f + 1 : Nat), p.work + h.work, c.came + 1⟩) := by
  have hmay := mayB_true.1 hm
  have hwk : 1 ≤ h.work ∧ h.work ≤ 1099511627776 := by unfold Hdr.may at hmay; omega
  have hfl : f < c.way.length := (List.getElem?_eq_some_iff.1 hf).1
  obtain ⟨x0, hx0, hxh, _⟩ := ht.way f _ hf
  rw [hp] at hx0; cases hx0
  have hdf : deepB c p.height = false := deep_false (by rw [hxh]; omega)
  obtain ⟨k1, t1⟩ := takes_inv hc ht hN h hw hwk (waits_nil c hca.orp _) (by rw [hn]; rfl) hp
  obtain ⟨id, hid⟩ : ∃ id, hidOf h = id := ⟨_, rfl⟩
  have hnK : newK c h = ⟨h.prev, (f + 1 : Nat), p.work + h.work, c.came + 1⟩ := by
    unfold newK; rw [hp]; simp only [Option.getD_some]; rw [hxh]; rfl
  have hTF := fun i => takes_find (h := h) hn i
  have hTA := add_take hm hca.go hca.orp hn hp hdf
  rw [hid] at k1 t1 hn hTF hTA
  obtain ⟨c1, hc1⟩ : ∃ c1, takesC c id h = c1 := ⟨_, rfl⟩
  have hway1 : c1.way = c.way := by rw [← hc1]; rfl
  have hk1 : c1.k = c.k := by rw [← hc1]; rfl
  have hgo1 : c1.halted = false := by rw [← hc1]; exact hca.go
  have horp1 : c1.orphans = [] := by rw [← hc1]; exact hca.orp
  have hkn1 : c1.known = c.known ++ [(c.clock, id, newK c h)] := by rw [← hc1]; exact takes_known hn
  rw [hc1] at k1 t1 hTF hTA
  rw [hid]
  have hid1 : findK id c1.known = some (newK c h) := by rw [hTF, if_pos rfl]
  have hnw : id ∉ c.way := fun q => by
    obtain ⟨j, hj⟩ := List.getElem?_of_mem q
    obtain ⟨x, hx, _⟩ := ht.way j id hj
    rw [hn] at hx; cases hx
  obtain ⟨htw, K, hK, hKh⟩ := ht.tips hc.way.1
  have htK : c.tipK = K := tipK_of hK
  obtain ⟨bK, hbK⟩ := findK_mem hK
  have htne : c.tip ≠ id := fun q => by rw [q, hn] at hK; cases hK
  have htip1 : c1.tip = c.tip := by unfold Ch.tip; rw [hway1]
  have hK1 : findK c.tip c1.known = some K := by rw [hTF, if_neg htne]; exact hK
  rw [htK] at hsmall
  have hcl0 := ht.camel _ hbK
  simp only [] at hcl0
  have hmax1 : ∀ e ∈ c1.known, betterK e.2.2 K = false := fun e he => by
    rw [hkn1] at he
    rcases List.mem_append.1 he with g | g
    · have := hca.max e g
      rw [htK] at this; exact this
    · simp only [List.mem_singleton] at g
      rw [g]
      refine betterK_false.2 ⟨by rw [hnK]; simp only []; omega, fun _ => ?_⟩
      rw [hnK]; simp only []; omega
  have hbest : c1.best = c.tip := t1.best_one k1.way.1 (b := bK) (x := K) (by rw [hkn1]; exact List.mem_append_left _ hbK) hmax1
  have hop : onB c1 c.tip = true := t1.on_way k1 (i := c.way.length - 1) (by rw [hway1]; exact htw)
  have hcl : climb ((hgtOf c1 c1.best).toNat + 1) c1 c1.best = ([], c.tip) := by
    rw [hbest]
    simp only [climb]
    rw [hop]
  have hups : c1.ups = [] := by unfold Ch.ups; rw [hcl]
  have hfid : c1.forkId = c.tip := by unfold Ch.forkId; rw [hcl]
  have hfk : c1.fork = c.way.length - 1 := by unfold Ch.fork hgtOf; rw [hfid, hK1]; simp only [Option.getD_some]; omega
  have hkk := hc.hk.1
  have hst : c1.stops = false := by unfold Ch.stops; rw [hfk, hway1, hk1]; exact decide_eq_false (by omega)
  have hA := hTA hst
  have hmC : movesC c1 = c1 := by
    unfold movesC
    rw [hst, hfk, hups, hway1]
    simp only [List.reverse_nil, List.append_nil]
    rw [List.take_of_length_le (by omega), ← hway1]
  have hmN : movesN c1 = 0 := by unfold movesN; rw [hst]
  obtain ⟨k3, t3⟩ := forgets_inv k1 t1
  rw [hA, hmC]
  simp only []
  have hway3 : (forgetsC c1).way = c.way := hway1
  have htip3 : (forgetsC c1).tip = c.tip := htip1
  have htK3 : findK c.tip (forgetsC c1).known = some K := left_way k1 t1 hK1 (by rw [hway1]; exact List.mem_of_getElem? htw)
  have hpm : h.prev ∈ c1.way := by rw [hway1]; exact List.mem_of_getElem? hf
  refine ⟨hmN, hway3, hk1, ⟨hgo1, horp1, ?_⟩, ?_, ?_, ?_⟩
  · intro e he
    have hK : (forgetsC c1).tipK = K := by rw [tipK_of (K := K)]; rw [htip3]; exact htK3
    rw [hK]
    exact hmax1 e (List.mem_filter.1 he).1
  · intro i x hx
    have h1 := left_of t1 hx
    rw [hTF] at h1
    by_cases q : i = id
    · rw [if_pos q] at h1
      exact .inl ⟨q, by rw [← hnK]; exact (Option.some.inj h1).symm⟩
    · rw [if_neg q] at h1
      exact .inr ⟨q, h1⟩
  · intro i x hx hiw
    have hine : i ≠ id := fun q => hnw (by rw [← q]; exact hiw)
    exact left_way k1 t1 (by rw [hTF, if_neg hine]; exact hx) (by rw [hway1]; exact hiw)
  · have := left_known k1 t1 hid1 (by rw [hway1]; exact hnw) (by rw [hnK]; exact hpm)
    rw [this, hnK, hway1, hk1, if_neg]
    simp only []
    omega
end Go.Aw
