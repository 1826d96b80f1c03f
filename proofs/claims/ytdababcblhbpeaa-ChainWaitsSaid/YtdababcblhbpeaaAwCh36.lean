/-
  AwCh36: headers that wait for one: the plain part. Own work.
-/
import Derived.Test.YtdababcblhbpeaaAwCh31
import Derived.Test.YtdababcblhbpeaaAwCh27
set_option linter.unusedVariables false
set_option linter.unusedSimpArgs false
set_option maxRecDepth 20000
open Go.Proofs
namespace Go.Aw

def wM (n : Nat) : List Md := (List.range n).map fun (j : Nat) => (⟨(j : Int), ((1 + j : Nat) : Int)⟩ : Md)
@[simp] theorem wM_len (n : Nat) : (wM n).length = n := by simp [wM]
theorem wM_succ (n : Nat) : wM (n + 1) = wM n ++ [⟨(n : Int), ((1 + n : Nat) : Int)⟩] := by unfold wM; rw [List.range_succ, List.map_append]; rfl
theorem wM_get {n j : Nat} (h : j < n) : (wM n)[j]? = some ⟨(j : Int), ((1 + j : Nat) : Int)⟩ := by simp [wM, h]
def upW (j : Nat) : Nat := j - 1
def hgW (j : Nat) : Int := (j : Int)
def wrW : Nat → Int
  | 0 => 1
  | j + 1 => wrW j + ((1 + j : Nat) : Int)
theorem wrW_lt {i : Nat} : ∀ {j : Nat}, i < j → wrW i < wrW j
  | 0, h => absurd h (by omega)
  | j + 1, h => by
    simp only [wrW]
    rcases Nat.lt_or_ge i j with g | g
    · have := wrW_lt g; omega
    · have : i = j := by omega
      subst this; omega
theorem w_len (n : Nat) : (castA (wM n)).length = n + 1 := by rw [(castA_props _).2.1, wM_len]
theorem w_main {n j : Nat} (hn : n ≤ 20) (hj : j ≤ n) : idL (castA (wM n)) j = idI idsW j ∧ (0 < j → hdL (castA (wM n)) j = ⟨idI idsW (j - 1), List.replicate 32 0, ((1 + (j - 1) : Nat) : Int), ((j - 1 : Nat) : Int)⟩) := by
  obtain ⟨h1, h2⟩ := cast_line idsW_ok (l := wM n) j (by omega) fun i hi => wM_get (by omega)
  refine ⟨h1, fun q => ?_⟩
  unfold hdL
  simp only [List.getD_eq_getElem?_getD, h2 q, Option.getD_some]
theorem w_forest {n : Nat} (hn : n ≤ 20) : Forest (castA (wM n)) upW hgW wrW := by
  have hlen := w_len n
  obtain ⟨hwf, _, h0⟩ := castA_props (wM n)
  have hM := fun j (hj : j ≤ n) => w_main hn hj
  refine ⟨by omega, fun j hj => ?_, fun j hj hjl => ?_, fun i j hi hj q => ?_, fun j hj hjl => by unfold upW; omega, fun j hj hjl => ?_, rfl, fun j hj hjl => by unfold hgW upW; omega, rfl, fun j hj hjl => ?_⟩
  · unfold hdL
    simp only [List.getD_eq_getElem?_getD, List.getElem?_eq_getElem hj, Option.getD_some]
    exact hwf _ (List.getElem_mem _)
  · rw [(hM j (by omega)).2 hj]; exact may_of (by unfold Hdr.may; simp only []; omega)
  · rw [(hM i (by omega)).1, (hM j (by omega)).1] at q
    exact idsW_ok.inj i j (by omega) (by omega) q
  · rw [(hM j (by omega)).2 hj]
    unfold upW
    rw [(hM (j - 1) (by omega)).1]
  · rw [(hM j (by omega)).2 hj]
    obtain ⟨i, rfl⟩ : ∃ i, j = i + 1 := ⟨j - 1, by omega⟩
    simp only [wrW, upW, Nat.add_sub_cancel]
/-- only the genesis is known; of the others, those of 'seen' wait -/
structure WaitC (c : Ch) (n : Nat) (most : Int) (seen : List Bool) (w N : Nat) : Prop where
  kok : KOk c N
  tree : Tree c
  best : BestC c (idL (castA (wM n)) 0)
  most : c.most = most
  set : Settled c
  sys : Sys c (castA (wM n)) upW hgW wrW (fun j => seen.getD j false = true)
  one : ∃ b x, c.known = [(b, idL (castA (wM n)) 0, x)]
  way : c.way.length = 1
  cnt : c.orphans.length = w
  not1 : seen.getD 1 false = false
theorem wait_new {n : Nat} (hn : 1 ≤ n ∧ n ≤ 20) {most : Int} (hm : 0 ≤ most ∧ most ≤ 30) : newB gen0 100 most = true ∧ WaitC (newC gen0 100 most) n most (List.replicate 21 false) 0 0 := by
  have hnb : newB gen0 100 most = true := by
    unfold newB
    rw [show mayB gen0 = true by unfold mayB; decide, Bool.true_and]
    exact decide_eq_true (by omega)
  obtain ⟨k0, t0⟩ := new_inv gen0 100 most gen0_wf hnb
  have h0 : hdL (castA (wM n)) 0 = gen0 := by
    unfold hdL
    simp only [List.getD_eq_getElem?_getD, (castA_props (wM n)).2.2, Option.getD_some]
  have F := w_forest (n := n) hn.2
  have hi0 : idL (castA (wM n)) 0 = hidOf gen0 := by unfold idL; rw [h0]
  have hK : findK (hidOf gen0) (newC gen0 100 most).known = some ⟨gen0.prev, 0, gen0.work, 0⟩ := by
    show (if hidOf gen0 = hidOf gen0 then _ else _) = _
    rw [if_pos rfl]
  have hr : ∀ j, (List.replicate 21 false).getD j false = false := fun j => by
    simp only [List.getD_eq_getElem?_getD, List.getElem?_replicate]
    split <;> rfl
  refine ⟨hnb, ⟨k0, t0, by rw [hi0]; exact new_best gen0 most, rfl, (fun o ho => nomatch ho), ⟨fun id x hx => ?_, (fun o ho => nomatch ho), (fun j _ _ h => by rw [hr] at h; exact absurd h (by decide)), by rw [hi0, hK]; rfl⟩, ⟨0, _, by rw [hi0]; rfl⟩, rfl, rfl, hr 1⟩⟩
  have hx2 : (if id = hidOf gen0 then some (⟨gen0.prev, 0, gen0.work, 0⟩ : KH) else none) = some x := hx
  split at hx2
  · rename_i q
    cases hx2
    exact ⟨0, F.pos, .inl rfl, by rw [q, hi0], by rw [F.h0], by rw [F.w0]; rfl⟩
  · cases hx2
theorem getD_set (l : List Bool) (j i : Nat) (hj : j < l.length) : (l.set j true).getD i false = (if i = j then true else l.getD i false) := by
  simp only [List.getD_eq_getElem?_getD, List.getElem?_set]
  by_cases h : j = i
  · subst h; simp [hj]
  · rw [if_neg h, if_neg (fun q => h q.symm)]
theorem wait_add {c : Ch} {n w N j : Nat} {most : Int} {seen : List Bool} (hn : 1 ≤ n ∧ n ≤ 20) (h : WaitC c n most seen w N) (hN : N + 1 ≤ 99) (hj : 2 ≤ j ∧ j ≤ n) (hsl : seen.length = 21) :
    (seen.getD j false = true → addC c (hdL (castA (wM n)) j) = (c, [], 6)) ∧
    (seen.getD j false = false → most ≤ (w : Int) → addC c (hdL (castA (wM n)) j) = (c, [], 4)) ∧
    (seen.getD j false = false → (w : Int) < most → (addC c (hdL (castA (wM n)) j)).2.2 = 0 ∧ WaitC (addC c (hdL (castA (wM n)) j)).1 n most (seen.set j true) (w + 1) (N + 1)) := by
  have F := w_forest (n := n) hn.2
  have hlen := w_len n
  obtain ⟨hc, ht, hb, hmo, hs, S, ⟨b, x, hone⟩, hway, hcnt, hn1⟩ := h
  obtain ⟨q1, q2, _⟩ := add_sys F hc ht hN hb S (j := j) (by omega) (by omega)
  have hpn : findK (hdL (castA (wM n)) j).prev c.known = none := by
    rw [F.prev j (by omega) (by omega), hone]
    simp only [findK]
    rw [if_neg]
    intro q
    have := F.inj (upW j) 0 (by unfold upW; omega) (by omega) q
    unfold upW at this
    omega
  refine ⟨q1, fun hA hw => ?_, fun hA hw => ?_⟩
  · exact (q2 (by rw [hA]; simp) hpn).1 (by rw [hmo, hcnt]; exact hw)
  · have e := (q2 (by rw [hA]; simp) hpn).2 (by rw [hmo, hcnt]; exact hw)
    obtain ⟨S2, s2⟩ := wait_sys F S hs (j := j) (by omega) (by omega) hpn
    obtain ⟨k2, t2⟩ := adds_inv hc ht (by omega) (hdL (castA (wM n)) j) (F.wf j (by omega))
    have hb2 := adds_best hc ht hN (hdL (castA (wM n)) j) (F.wf j (by omega)) hb
    rw [e] at k2 t2 hb2 ⊢
    have eA : (fun (i : Nat) => (seen.set j true).getD i false = true) = fun i => seen.getD i false = true ∨ i = j := by
      funext i
      rw [getD_set seen j i (by omega)]
      by_cases g : i = j
      · rw [if_pos g]; simp [g]
      · rw [if_neg g]; simp [g]
    refine ⟨rfl, k2, t2, hb2, hmo, s2, by rw [eA]; exact S2, ⟨b, x, hone⟩, hway, by simp [hcnt], ?_⟩
    rw [getD_set seen j 1 (by omega), if_neg (by omega)]; exact hn1
/-- the one they wait for comes -/
theorem wait_end {c : Ch} {n w N u : Nat} {most : Int} {seen : List Bool} (hn : 1 ≤ n ∧ n ≤ 20) (h : WaitC c n most seen w N) (hN : N + 1 ≤ 99) (hu : 1 ≤ u ∧ u ≤ n) (hseen : ∀ j, 2 ≤ j → j ≤ u → seen.getD j false = true) (hstop : u < n → seen.getD (u + 1) false = false) :
    (addC c (hdL (castA (wM n)) 1)).2.2 = 0 ∧ (addC c (hdL (castA (wM n)) 1)).2.1.length = u ∧ (addC c (hdL (castA (wM n)) 1)).1.way.length = u + 1 ∧ (addC c (hdL (castA (wM n)) 1)).1.orphans.length + u = w + 1 ∧
    KOk (addC c (hdL (castA (wM n)) 1)).1 (N + 1) := by
  have F := w_forest (n := n) hn.2
  have hlen := w_len n
  obtain ⟨hc, ht, hb, hmo, hs, S, ⟨b, x, hone⟩, hway, hcnt, hn1⟩ := h
  obtain ⟨_, _, q3⟩ := add_sys F hc ht hN hb S (j := 1) (by omega) (by omega)
  have hwf := F.wf 1 (by omega)
  obtain ⟨k2, t2⟩ := adds_inv hc ht (by omega) (hdL (castA (wM n)) 1) hwf
  have hb2 := adds_best hc ht hN (hdL (castA (wM n)) 1) hwf hb
  obtain ⟨⟨f, ups, hpl⟩, _, _⟩ := add_plays hc ht (by omega) (hdL (castA (wM n)) 1) hwf
  obtain ⟨r1, S2, s2, hc2, _⟩ := q3 (by rw [hn1]; simp) (by rw [F.prev 1 (by omega) (by omega)]; exact S.gen)
  obtain ⟨c2, he⟩ : ∃ c2, (addC c (hdL (castA (wM n)) 1)).1 = c2 := ⟨_, rfl⟩
  rw [he] at k2 t2 hb2 hpl S2 s2 hc2 ⊢
  have hA : ∀ j, 0 < j → j < (castA (wM n)).length → j ≤ u → seen.getD j false = true ∨ j = 1 := fun j h1 _ h3 => by
    rcases Nat.lt_or_ge 1 j with g | g
    · exact .inl (hseen j (by omega) h3)
    · exact .inr (by omega)
  have hin : ∀ j, j ≤ u → (findK (idL (castA (wM n)) j) c2.known).isSome = true := fun j hj =>
    all_known F S2 s2 (m := u) hA (fun j _ _ h3 => by unfold upW; omega) (j + 1) j (by omega) hj (by omega)
  have down : ∀ (d j : Nat), j < (castA (wM n)).length → u < j → j = u + 1 + d → (findK (idL (castA (wM n)) j) c2.known).isSome = true → (findK (idL (castA (wM n)) (u + 1)) c2.known).isSome = true := by
    intro d
    induction d with
    | zero => intro j _ _ e q; rw [e] at q; exact q
    | succ d ih =>
      intro j hjl hj e q
      obtain ⟨y, hy⟩ := Option.isSome_iff_exists.1 q
      obtain ⟨by', hby⟩ := findK_mem hy
      obtain ⟨j', hjl', _, e1, e2, _⟩ := S2.known _ _ hy
      have := F.inj _ _ hjl hjl' e1
      subst this
      obtain ⟨p, hp, hph, _⟩ := t2.prev _ hby (by simp only []; rw [e2]; unfold hgW; omega)
      simp only [] at hp hph
      obtain ⟨i, hil, _, f1, f2, _⟩ := S2.known _ _ hp
      rw [f2, e2] at hph
      unfold hgW at hph
      have hij : i = u + 1 + d := by omega
      rw [f1] at hp
      exact ih i hil (by omega) hij (by rw [hp]; rfl)
  have hout : ∀ id y, findK id c2.known = some y → ∃ j, j ≤ u ∧ id = idL (castA (wM n)) j ∧ y.height = (j : Int) ∧ y.work = wrW j := fun id y hy => by
    obtain ⟨j, hjl, _, e1, e2, e3⟩ := S2.known _ _ hy
    rcases Nat.lt_or_ge u j with g | g
    · exfalso
      rw [e1] at hy
      have h1 := down (j - (u + 1)) j hjl g (by omega) (by rw [hy]; rfl)
      obtain ⟨z, hz⟩ := Option.isSome_iff_exists.1 h1
      obtain ⟨i, hil, h0, g1, _⟩ := S2.known _ _ hz
      have hui := F.inj _ _ (by omega) hil g1
      subst hui
      rcases h0 with g | g | g
      · omega
      · rw [hstop (by omega)] at g; cases g
      · omega
    · exact ⟨j, g, e1, e2, e3⟩
  have hkl : c2.known.length = u + 1 := by
    have hperm : (c2.known.map (·.2.1)).Perm ((List.range (u + 1)).map (idL (castA (wM n)))) := by
      refine (List.perm_ext_iff_of_nodup t2.keys ?_).2 fun id => ⟨fun hid => ?_, fun hid => ?_⟩
      · unfold List.Nodup
        rw [List.pairwise_map]
        refine List.Pairwise.imp_of_mem (R := fun a b => a < b) (fun hi hj hij q => ?_) List.pairwise_lt_range
        simp only [List.mem_range] at hi hj
        have := F.inj _ _ (by omega) (by omega) q
        omega
      · obtain ⟨e, he2, rfl⟩ := List.mem_map.1 hid
        obtain ⟨j, hj, e1, _⟩ := hout _ _ (findK_get t2.keys (show (e.1, e.2.1, e.2.2) ∈ c2.known from he2))
        exact List.mem_map.2 ⟨j, by simp only [List.mem_range]; omega, e1.symm⟩
      · obtain ⟨j, hj, rfl⟩ := List.mem_map.1 hid
        simp only [List.mem_range] at hj
        obtain ⟨y, hy⟩ := Option.isSome_iff_exists.1 (hin j (by omega))
        obtain ⟨by', hby⟩ := findK_mem hy
        exact List.mem_map.2 ⟨_, hby, rfl⟩
    have := hperm.length_eq
    simpa using this
  obtain ⟨htw, K, hK, hKh⟩ := t2.tips k2.way.1
  obtain ⟨t, htu, f1, f2, f3⟩ := hout _ _ hK
  obtain ⟨y, hy⟩ := Option.isSome_iff_exists.1 (hin u (Nat.le_refl u))
  obtain ⟨by', hby⟩ := findK_mem hy
  have hmax := hb2.max _ hby
  rw [tipK_of hK] at hmax
  obtain ⟨u', hu', g1, _, g3⟩ := hout _ _ hy
  have huu := F.inj _ _ (by omega) (by omega) g1
  subst huu
  simp only [] at hmax
  have htu2 : t = u := by
    rcases Nat.lt_or_ge t u with g | g
    · have := wrW_lt g; omega
    · omega
  have hwl : c2.way.length = u + 1 := by
    rw [f2, htu2] at hKh
    have := k2.way.1
    omega
  refine ⟨r1, ?_, hwl, by rw [hkl, hone] at hc2; simp at hc2; omega, k2⟩
  have hlt := hpl.lt
  have hto := hpl.to
  rw [hway] at hlt
  have hf0 : f = 0 := by omega
  subst hf0
  have h1 := congrArg List.length hto
  rw [List.length_append, List.length_take, hway, hwl] at h1
  rw [hpl.ev, List.length_append, evDown_length, evUp_length, hway]
  simp at h1 ⊢
  omega
end Go.Aw
