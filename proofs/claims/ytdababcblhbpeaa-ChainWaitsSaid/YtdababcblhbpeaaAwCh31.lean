/-
  AwCh31: headers in any order, none too deep: the plain part. Own work.
-/
import Derived.Test.YtdababcblhbpeaaAwCh25
set_option linter.unusedVariables false
set_option linter.unusedSimpArgs false
set_option maxRecDepth 20000
open Go.Proofs
namespace Go.Aw

def hdL (L : List Hdr) (j : Nat) : Hdr := L.getD j default
def idL (L : List Hdr) (j : Nat) : List Int := hidOf (hdL L j)
/-- headers, each but the first on one that stands before it; no two have one hash -/
structure Forest (L : List Hdr) (up : Nat → Nat) (hg wr : Nat → Int) : Prop where
  pos : 0 < L.length
  wf : ∀ j, j < L.length → (hdL L j).wf
  may : ∀ j, 0 < j → j < L.length → mayB (hdL L j) = true
  inj : ∀ i j, i < L.length → j < L.length → idL L i = idL L j → i = j
  lt : ∀ j, 0 < j → j < L.length → up j < j
  prev : ∀ j, 0 < j → j < L.length → (hdL L j).prev = idL L (up j)
  h0 : hg 0 = 0
  hs : ∀ j, 0 < j → j < L.length → hg j = hg (up j) + 1
  w0 : wr 0 = 1
  ws : ∀ j, 0 < j → j < L.length → wr j = wr (up j) + (hdL L j).work
/-- what a chain knows, and what waits, when those of 'A' came -/
structure Sys (c : Ch) (L : List Hdr) (up : Nat → Nat) (hg wr : Nat → Int) (A : Nat → Prop) : Prop where
  known : ∀ id x, findK id c.known = some x → ∃ j, j < L.length ∧ (j = 0 ∨ A j) ∧ id = idL L j ∧ x.height = hg j ∧ x.work = wr j
  orph : ∀ o ∈ c.orphans, ∃ j, 0 < j ∧ j < L.length ∧ A j ∧ o = (idL L j, hdL L j)
  all : ∀ j, 0 < j → j < L.length → A j → (findK (idL L j) c.known).isSome = true ∨ (idL L j, hdL L j) ∈ c.orphans
  gen : (findK (idL L 0) c.known).isSome = true
def Settled (c : Ch) : Prop := ∀ o ∈ c.orphans, findK o.2.prev c.known = none
section
variable {L : List Hdr} {up : Nat → Nat} {hg wr : Nat → Int}
theorem take_sys (F : Forest L up hg wr) {c c0 : Ch} {A B : Nat → Prop} (S : Sys c L up hg wr A) (e1 : c0.known = c.known) {j : Nat} (hj : 0 < j) (hjl : j < L.length)
    (ho1 : ∀ o ∈ c0.orphans, o ∈ c.orphans) (ho2 : ∀ o ∈ c.orphans, o ∈ c0.orphans ∨ o = (idL L j, hdL L j)) (hn : findK (idL L j) c.known = none) {p : KH} (hp : findK (hdL L j).prev c.known = some p)
    (hA : ∀ i, A i → B i) (hBj : B j) (hB : ∀ i, B i → A i ∨ i = j) : Sys (takesC c0 (idL L j) (hdL L j)) L up hg wr B := by
  have hn0 : findK (idL L j) c0.known = none := by rw [e1]; exact hn
  have hTF := fun i => takes_find (h := hdL L j) hn0 i
  have hor : (takesC c0 (idL L j) (hdL L j)).orphans = c0.orphans := rfl
  have mono : ∀ id, (findK id c.known).isSome = true → (findK id (takesC c0 (idL L j) (hdL L j)).known).isSome = true := fun id q => by
    rw [hTF]
    split
    · rfl
    · rw [e1]; exact q
  refine ⟨fun id x hx => ?_, fun o ho => ?_, fun i hi hil hBi => ?_, mono _ S.gen⟩
  · rw [hTF] at hx
    split at hx
    · rename_i q
      cases hx
      obtain ⟨i, hil, _, e, eh, ew⟩ := S.known _ _ hp
      rw [F.prev j hj hjl] at e
      have hlt := F.lt j hj hjl
      have : up j = i := F.inj _ _ (by omega) hil e
      subst this
      refine ⟨j, hjl, .inr hBj, q, ?_, ?_⟩
      · unfold newK; rw [e1, hp]; simp only [Option.getD_some]; rw [eh, F.hs j hj hjl]
      · unfold newK; rw [e1, hp]; simp only [Option.getD_some]; rw [ew, F.ws j hj hjl]
    · rw [e1] at hx
      obtain ⟨i, h1, h2, h3⟩ := S.known id x hx
      exact ⟨i, h1, h2.imp (fun q => q) (hA i), h3⟩
  · obtain ⟨i, h1, h2, h3, h4⟩ := S.orph o (ho1 o ho)
    exact ⟨i, h1, h2, hA i h3, h4⟩
  · rcases hB i hBi with g | g
    · rcases S.all i hi hil g with q | q
      · exact .inl (mono _ q)
      · rcases ho2 _ q with r | r
        · exact .inr r
        · left
          have : i = j := F.inj i j hil hjl (congrArg (·.1) r)
          rw [this, hTF, if_pos rfl]; rfl
    · left; rw [g, hTF, if_pos rfl]; rfl
theorem deep_not {c : Ch} (hk : c.k = 100) (hw : c.way.length ≤ 101) {x : Int} (hx : 0 ≤ x) : deepB c x = false := deep_false (by omega)
theorem adopt_sys (F : Forest L up hg wr) {A : Nat → Prop} : ∀ (n : Nat) (c : Ch) {N : Nat}, KOk c N → Tree c → Sys c L up hg wr A → c.k = 100 → c.way.length ≤ 101 → c.orphans.length ≤ n →
    Sys (adoptN n c) L up hg wr A ∧ Settled (adoptN n c) ∧ (adoptN n c).known.length + (adoptN n c).orphans.length = c.known.length + c.orphans.length ∧ (∀ id, (findK id c.known).isSome = true → (findK id (adoptN n c).known).isSome = true)
  | 0, c, N, hc, ht, S, _, _, hl => by
    refine ⟨S, fun o ho => ?_, rfl, fun _ q => q⟩
    have : c.orphans = [] := List.length_eq_zero_iff.1 (by omega)
    rw [show (adoptN 0 c).orphans = c.orphans from rfl, this] at ho
    cases ho
  | n + 1, c, N, hc, ht, S, hk, hw, hl => by
    simp only [adoptN]
    cases hf : idxF (prevKn c) c.orphans with
    | none =>
      refine ⟨S, fun o ho => ?_, rfl, fun _ q => q⟩
      obtain ⟨i, hi⟩ := List.getElem?_of_mem ho
      have := idxF_none_of hf i o hi
      unfold prevKn at this
      simpa using this
    | some i =>
      obtain ⟨o, ho, hpo⟩ := idxF_some hf
      have hod : c.orphans.getD i zeroO = o := by simp [ho]
      simp only [hod]
      have hs := hc.step ho
      have hpo' : (findK o.2.prev c.known).isSome = true := by unfold prevKn at hpo; exact hpo
      have ht' := ht.step hc ho hpo'
      have hm : o ∈ c.orphans := List.mem_of_getElem? ho
      have hil := (List.getElem?_eq_some_iff.1 ho).1
      obtain ⟨j, hj, hjl, hAj, rfl⟩ := S.orph o hm
      obtain ⟨p, hp⟩ := Option.isSome_iff_exists.1 hpo'
      simp only [] at hp
      have hno := ht.orpn _ hm
      simp only [] at hno
      obtain ⟨bp, hbp⟩ := findK_mem hp
      have hd : stepC c i (idL L j, hdL L j) = takesC (lessC c i) (idL L j) (hdL L j) := by
        unfold stepC
        rw [hp]
        simp only [Option.getD_some]
        rw [deep_not (c := lessC c i) hk hw (hc.hts _ hbp).1]
        simp
      have hsplit : c.orphans = c.orphans.take i ++ (idL L j, hdL L j) :: c.orphans.drop (i + 1) := by
        have := List.getElem_cons_drop (i := i) hil
        rw [(List.getElem?_eq_some_iff.1 ho).2] at this
        rw [this, List.take_append_drop]
      have S2 : Sys (stepC c i (idL L j, hdL L j)) L up hg wr A := by
        rw [hd]
        refine take_sys F S (c0 := lessC c i) rfl hj hjl (fun o ho => ?_) (fun o ho => ?_) hno hp (fun _ q => q) hAj (fun _ q => .inl q)
        · rcases List.mem_append.1 ho with g | g
          · exact List.mem_of_mem_take g
          · exact List.mem_of_mem_drop g
        · rw [hsplit] at ho
          rcases List.mem_append.1 ho with g | g
          · exact .inl (List.mem_append_left _ g)
          · rcases List.mem_cons.1 g with g | g
            · exact .inr g
            · exact .inl (List.mem_append_right _ g)
      obtain ⟨a1, a2, a3, a4⟩ := adopt_sys F n (stepC c i (idL L j, hdL L j)) hs.1 ht' S2 (by rw [hd]; exact hk) (by rw [hd]; exact hw) (by have := hs.2; omega)
      refine ⟨a1, a2, ?_, fun id q => a4 id ?_⟩
      · rw [a3]
        have h1 := hs.2
        have h2 : (stepC c i (idL L j, hdL L j)).known.length = c.known.length + 1 := by
          rw [hd, takes_known (c := lessC c i) hno]
          simp [lessC]
        omega
      · rw [hd, takes_find (c := lessC c i) hno]
        split
        · rfl
        · exact q
theorem none_gone {c : Ch} {N : Nat} (hc : KOk c N) (ht : Tree c) (hk : c.k = 100) (hw : c.way.length ≤ 101) : (forgetsC c).known = c.known := by
  unfold forgetsC
  simp only []
  rw [List.filter_eq_self]
  intro e he
  cases q : goneB c e.2.1 with
  | false => rfl
  | true =>
    have hget := findK_get ht.keys (show (e.1, e.2.1, e.2.2) ∈ c.known from he)
    have := gone_all ht hc (G := []) (fun e he ho hd => by
      rw [deep_not hk hw (hc.hts _ he).1] at hd; cases hd) (fun e he ho hg => by cases hg) e.2.2.height.toNat e.2.1 e.2.2 hget (Nat.le_refl _) q
    cases this
theorem waits_iff {c : Ch} {id : List Int} : waitsB c id = true ↔ ∃ o ∈ c.orphans, o.1 = id := by
  unfold waitsB
  rw [decide_eq_true_eq]
  constructor
  · intro h
    cases hx : idxF (sameId id) c.orphans with
    | none => unfold idxI at h; rw [hx] at h; simp at h
    | some i =>
      obtain ⟨o, ho, hp⟩ := idxF_some hx
      unfold sameId at hp
      exact ⟨o, List.mem_of_getElem? ho, of_decide_eq_true hp⟩
  · rintro ⟨o, ho, e⟩
    cases hx : idxF (sameId id) c.orphans with
    | none =>
      obtain ⟨i, hi⟩ := List.getElem?_of_mem ho
      have := idxF_none_of hx i o hi
      unfold sameId at this
      simp [e] at this
    | some i => unfold idxI; rw [hx]; simp
/-- one header more, of those of the forest -/
theorem add_sys (F : Forest L up hg wr) {A : Nat → Prop} {c : Ch} {N : Nat} (hc : KOk c N) (ht : Tree c) (hN : N + 1 ≤ 99) (hb : BestC c (idL L 0)) (S : Sys c L up hg wr A) {j : Nat} (hj : 0 < j) (hjl : j < L.length) :
    (A j → addC c (hdL L j) = (c, [], 6)) ∧
    (¬ A j → findK (hdL L j).prev c.known = none → (c.most ≤ (c.orphans.length : Int) → addC c (hdL L j) = (c, [], 4)) ∧ ((c.orphans.length : Int) < c.most → addC c (hdL L j) = ({ c with orphans := c.orphans ++ [(idL L j, hdL L j)] }, [], 0))) ∧
    (¬ A j → (findK (hdL L j).prev c.known).isSome = true → (addC c (hdL L j)).2.2 = 0 ∧ Sys (addC c (hdL L j)).1 L up hg wr (fun i => A i ∨ i = j) ∧ Settled (addC c (hdL L j)).1 ∧
      (addC c (hdL L j)).1.known.length + (addC c (hdL L j)).1.orphans.length = c.known.length + c.orphans.length + 1 ∧ (∀ id, (findK id c.known).isSome = true → (findK id (addC c (hdL L j)).1.known).isSome = true)) := by
  have hm := F.may j hj hjl
  have hmay := mayB_true.1 hm
  have hwk : 1 ≤ (hdL L j).work ∧ (hdL L j).work ≤ 1099511627776 := by unfold Hdr.may at hmay; omega
  have hid : hidOf (hdL L j) = idL L j := rfl
  have hkA : ∀ x, findK (idL L j) c.known = some x → A j := fun x hx => by
    obtain ⟨i, hil, h0, e, _⟩ := S.known _ _ hx
    have := F.inj j i hjl hil e
    subst this
    rcases h0 with g | g
    · omega
    · exact g
  have hwA : waitsB c (idL L j) = true → A j := fun q => by
    obtain ⟨o, ho, e⟩ := waits_iff.1 q
    obtain ⟨i, _, hil, hAi, rfl⟩ := S.orph o ho
    have := F.inj i j hil hjl e
    rw [← this]; exact hAi
  refine ⟨fun hA => ?_, fun hA hpn => ?_, fun hA hpk => ?_⟩
  · have : (waitsB c (idL L j) || (findK (idL L j) c.known).isSome) = true := by
      rcases S.all j hj hjl hA with q | q
      · rw [q, Bool.or_true]
      · rw [waits_iff.2 ⟨_, q, rfl⟩, Bool.true_or]
    unfold addC
    rw [hb.go, hm, hid, this]
  all_goals
    have hw0 : waitsB c (idL L j) = false := by
      cases q : waitsB c (idL L j) with
      | false => rfl
      | true => exact absurd (hwA q) hA
    have hk0 : findK (idL L j) c.known = none := by
      cases q : findK (idL L j) c.known with
      | none => rfl
      | some x => exact absurd (hkA x q) hA
  · refine ⟨fun q => ?_, fun q => ?_⟩
    · unfold addC
      rw [hb.go, hm, hid, hw0, hk0, hpn]
      simp only [Option.isSome_none, Bool.or_false]
      rw [decide_eq_true (by omega)]
    · unfold addC
      rw [hb.go, hm, hid, hw0, hk0, hpn]
      simp only [Option.isSome_none, Bool.or_false]
      rw [decide_eq_false (by omega)]
  · obtain ⟨p, hp⟩ := Option.isSome_iff_exists.1 hpk
    obtain ⟨bp, hbp⟩ := findK_mem hp
    have hsum := hc.sum
    have hwl := hc.way
    have hdf : deepB c p.height = false := deep_not hb.k (by omega) (hc.hts _ hbp).1
    obtain ⟨k1, t1⟩ := takes_inv hc ht (by omega) (hdL L j) (F.wf j hjl) hwk hw0 (by rw [hid, hk0]; rfl) hp
    rw [hid] at k1 t1
    obtain ⟨c1, hc1⟩ : ∃ c1, takesC c (idL L j) (hdL L j) = c1 := ⟨_, rfl⟩
    have S1 : Sys c1 L up hg wr (fun i => A i ∨ i = j) := by
      rw [← hc1]
      exact take_sys F S rfl hj hjl (fun _ q => q) (fun _ q => .inl q) hk0 hp (fun _ q => .inl q) (.inr rfl) (fun _ q => q)
    have hl1 : c1.known.length = c.known.length + 1 := by rw [← hc1, takes_known hk0]; simp
    have ho1 : c1.orphans = c.orphans := by rw [← hc1]; rfl
    have hway1 : c1.way = c.way := by rw [← hc1]; rfl
    have hk1 : c1.k = 100 := by rw [← hc1]; exact hb.k
    have hgo1 : c1.halted = false := by rw [← hc1]; exact hb.go
    have hm1 : ∀ id, (findK id c.known).isSome = true → (findK id c1.known).isSome = true := fun id q => by
      rw [← hc1, takes_find hk0]
      split
      · rfl
      · exact q
    rw [hc1] at k1 t1
    obtain ⟨S2, hset2, hcnt2, hm2⟩ := adopt_sys F c1.orphans.length c1 k1 t1 S1 hk1 (by rw [hway1]; omega) (Nat.le_refl _)
    obtain ⟨k2, t2, hw2, hk2, _, hh2⟩ := adoptN_ok c1.orphans.length c1 k1 t1
    obtain ⟨c2, hc2⟩ : ∃ c2, adoptN c1.orphans.length c1 = c2 := ⟨_, rfl⟩
    have hc2' : adoptC c1 = c2 := hc2
    rw [hc2] at S2 hset2 hcnt2 hm2 k2 t2 hw2 hk2 hh2
    obtain ⟨hst, hB⟩ := best_end (c := c2) k2 t2 hN (hk2.trans hk1) (hh2.trans hgo1) (g := idL L 0) (by rw [hw2, hway1]; exact hb.gen)
    have hadd : addC c (hdL L j) = (forgetsC (movesC c2), movesE c2, movesN c2) := by
      unfold addC
      rw [hb.go, hm, hid, hw0, hk0, hp]
      simp only [Option.isSome_none, Bool.or_false]
      rw [hdf]
      simp only []
      rw [hc1, hc2', hst]
    obtain ⟨k3, t3⟩ := moves_inv k2 t2
    have hmC : movesC c2 = { c2 with way := c2.way.take (c2.fork + 1) ++ c2.ups.reverse } := by unfold movesC; rw [hst]
    have hkn3 : (forgetsC (movesC c2)).known = c2.known := by
      have s3 := k3.sum
      have w3 := k3.way
      rw [none_gone k3 t3 (by rw [hmC]; exact hk2.trans hk1) (by omega), hmC]
    have hor3 : (forgetsC (movesC c2)).orphans = c2.orphans := by rw [hmC]; rfl
    rw [hadd]
    simp only []
    refine ⟨by unfold movesN; rw [hst], ⟨?_, ?_, ?_, ?_⟩, ?_, ?_, ?_⟩
    · rw [hkn3]; exact S2.known
    · rw [hor3]; exact S2.orph
    · rw [hkn3, hor3]; exact S2.all
    · rw [hkn3]; exact S2.gen
    · unfold Settled; rw [hkn3, hor3]; exact hset2
    · rw [hkn3, hor3, hcnt2, hl1, ho1]; omega
    · intro id q
      rw [hkn3]
      exact hm2 id (hm1 id q)
/-- it waits -/
theorem wait_sys (F : Forest L up hg wr) {A : Nat → Prop} {c : Ch} (S : Sys c L up hg wr A) (hs : Settled c) {j : Nat} (hj : 0 < j) (hjl : j < L.length) (hp : findK (hdL L j).prev c.known = none) :
    Sys { c with orphans := c.orphans ++ [(idL L j, hdL L j)] } L up hg wr (fun i => A i ∨ i = j) ∧ Settled { c with orphans := c.orphans ++ [(idL L j, hdL L j)] } := by
  refine ⟨⟨fun id x hx => ?_, fun o ho => ?_, fun i hi hil hB => ?_, S.gen⟩, fun o ho => ?_⟩
  · obtain ⟨i, h1, h2, h3⟩ := S.known id x hx
    exact ⟨i, h1, h2.imp (fun q => q) .inl, h3⟩
  · rcases List.mem_append.1 ho with g | g
    · obtain ⟨i, h1, h2, h3, h4⟩ := S.orph o g
      exact ⟨i, h1, h2, .inl h3, h4⟩
    · simp only [List.mem_singleton] at g
      exact ⟨j, hj, hjl, .inr rfl, g⟩
  · rcases hB with g | g
    · rcases S.all i hi hil g with q | q
      · exact .inl q
      · exact .inr (List.mem_append_left _ q)
    · subst g; exact .inr (List.mem_append_right _ (List.mem_singleton.2 rfl))
  · rcases List.mem_append.1 ho with g | g
    · exact hs o g
    · simp only [List.mem_singleton] at g
      rw [g]; exact hp
/-- where all have come, all are known -/
theorem all_known (F : Forest L up hg wr) {A : Nat → Prop} {c : Ch} (S : Sys c L up hg wr A) (hs : Settled c) {m : Nat} (hA : ∀ j, 0 < j → j < L.length → j ≤ m → A j) (hup : ∀ j, 0 < j → j < L.length → j ≤ m → up j ≤ m) : ∀ (n j : Nat), j < n → j ≤ m → j < L.length → (findK (idL L j) c.known).isSome = true
  | 0, j, h, _, _ => absurd h (by omega)
  | n + 1, j, h, hjm, hjl => by
    rcases Nat.eq_zero_or_pos j with g | g
    · rw [g]; exact S.gen
    · have hlt := F.lt j g hjl
      have h1 := all_known F S hs hA hup n (up j) (by omega) (hup j g hjl hjm) (by omega)
      rcases S.all j g hjl (hA j g hjl hjm) with q | q
      · exact q
      · have h2 := hs _ q
        simp only [] at h2
        rw [F.prev j g hjl] at h2
        rw [h2] at h1; cases h1
end
end Go.Aw
