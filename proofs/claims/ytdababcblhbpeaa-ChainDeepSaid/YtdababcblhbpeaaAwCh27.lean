/-
  AwCh27: headers that stand on one another, and one aside: the plain part. Own work.
-/
import Derived.Test.YtdababcblhbpeaaAwCh25
import Derived.Test.YtdababcblhbpeaaAwCh26
set_option linter.unusedVariables false
set_option linter.unusedSimpArgs false
set_option maxRecDepth 20000
open Go.Proofs
namespace Go.Aw

noncomputable def allP (p : List Nat → Bool) (l : List (List Nat)) : Bool := @List.rec (List Nat) (fun _ => Bool) true (fun x _ ih => and (p x) ih) l
theorem allP_ok {p : List Nat → Bool} : ∀ {l : List (List Nat)}, allP p l = true → ∀ x ∈ l, p x = true
  | [], _, x, hx => by simp at hx
  | y :: r, h, x, hx => by
    have q : allP p (y :: r) = and (p y) (allP p r) := rfl
    rw [q, Bool.and_eq_true] at h
    rcases List.mem_cons.1 hx with g | g
    · rw [g]; exact h.1
    · exact allP_ok h.2 x g
theorem idI_mem {I : List (List Nat)} {n : Nat} {wk : Nat → Int} (hI : IdsOk I n wk) {j : Nat} (hj : j ≤ n) : I.getD j [] ∈ I := by
  have := hI.len
  simp only [List.getD_eq_getElem?_getD, List.getElem?_eq_getElem (show j < I.length by omega), Option.getD_some]
  exact List.getElem_mem _
theorem aside_of {I : List (List Nat)} {n m a : Nat} {wk : Nat → Int} (hI : IdsOk I n wk) (hb : bytesOk I = true) {w : List Nat} {wx : Int} (hw : byteOk w) (hwk : putL wx = w.map Int.ofNat) (hk : okN wx) (ha : m + a ≤ 253)
    (h : allP (asideP m a w I) I = true) {f j x : Nat} (hf : f ≤ n) (hj : j ≤ n) (hx : a ≤ x ∧ x < m + a) : hidOf ⟨idI I f, List.replicate 32 0, wx, (x : Int)⟩ ≠ idI I j := by
  have hB := bytesOk_ok hb
  have h1 := allP_ok h _ (idI_mem hI hf)
  have h2 := asideP_ok (hB _ (idI_mem hI hf)) hw hwk hk ha hB h1 (x - a) (by omega) _ (idI_mem hI hj)
  rw [show x - a + a = x by omega] at h2
  exact h2
set_option maxRecDepth 100000 in
theorem asideD : allP (asideP 40 1 [253, 232, 3] idsD) idsD = true := by decide +kernel
set_option maxRecDepth 100000 in
theorem asideF : allP (asideP 40 1 [1] idsF) idsF = true := by decide +kernel
theorem apartD {f j x : Nat} (hf : f ≤ 40) (hj : j ≤ 40) (hx : 1 ≤ x ∧ x ≤ 40) : hidOf ⟨idI idsD f, List.replicate 32 0, 1000, (x : Int)⟩ ≠ idI idsD j :=
  aside_of idsD_ok (by decide +kernel) (w := [253, 232, 3]) (by simp [byteOk]) rfl (by simp [okN]) (by omega) asideD hf hj (m := 40) (a := 1) (by omega)
theorem apartF {f j x : Nat} (hf : f ≤ 40) (hj : j ≤ 40) (hx : 1 ≤ x ∧ x ≤ 40) : hidOf ⟨idI idsF f, List.replicate 32 0, 1, (x : Int)⟩ ≠ idI idsF j :=
  aside_of idsF_ok (by decide +kernel) (w := [1]) (by simp [byteOk]) rfl (by simp [okN]) (by omega) asideF hf hj (m := 40) (a := 1) (by omega)

/-- the chain's headers so far -/
def lineW (I : List (List Nat)) (i : Nat) : List (List Int) := (List.range (i + 1)).map (idI I)
theorem lineW_len (I : List (List Nat)) (i : Nat) : (lineW I i).length = i + 1 := by simp [lineW]
theorem lineW_get (I : List (List Nat)) {i j : Nat} (h : j ≤ i) : (lineW I i)[j]? = some (idI I j) := by
  simp [lineW, show j < i + 1 by omega]
theorem lineW_succ (I : List (List Nat)) (i : Nat) : lineW I (i + 1) = lineW I i ++ [idI I (i + 1)] := by
  unfold lineW; rw [List.range_succ (n := i + 1), List.map_append]; rfl
theorem lineW_take (I : List (List Nat)) {i j : Nat} (h : j ≤ i) : (lineW I i).take (j + 1) = lineW I j := by
  unfold lineW; rw [← List.map_take, List.take_range, Nat.min_eq_left (by omega)]
theorem lineW_mem {I : List (List Nat)} {i : Nat} {id : List Int} : id ∈ lineW I i ↔ ∃ j, j ≤ i ∧ id = idI I j := by
  unfold lineW
  rw [List.mem_map]
  constructor
  · rintro ⟨j, hj, rfl⟩; exact ⟨j, by simp at hj; omega, rfl⟩
  · rintro ⟨j, hj, rfl⟩; exact ⟨j, by simp; omega, rfl⟩
structure Line (c : Ch) (I : List (List Nat)) (i : Nat) (k w : Int) (S : List Int → KH → Prop) : Prop where
  way : c.way = lineW I i
  k : c.k = k
  calm : Calm c
  known : ∀ j, j ≤ i → ∃ x, findK (idI I j) c.known = some x ∧ x.work = 1 + w * j
  only : ∀ id x, findK id c.known = some x → (∃ j, j ≤ i ∧ id = idI I j) ∨ S id x
theorem Line.tip {c : Ch} {I : List (List Nat)} {i : Nat} {k w : Int} {S} (h : Line c I i k w S) : c.tip = idI I i := by
  unfold Ch.tip
  rw [h.way, lineW_len, show i + 1 - 1 = i by omega]
  simp only [List.getD_eq_getElem?_getD, lineW_get I (Nat.le_refl i), Option.getD_some]
theorem line_new {I : List (List Nat)} {n : Nat} {wk : Nat → Int} (hI : IdsOk I n wk) (k most w : Int) (S : List Int → KH → Prop) : Line (newC gen0 k most) I 0 k w S := by
  have hz := hI.zero
  have hK : findK (hidOf gen0) (newC gen0 k most).known = some ⟨gen0.prev, 0, gen0.work, 0⟩ := by
    show (if hidOf gen0 = hidOf gen0 then _ else _) = _
    rw [if_pos rfl]
  refine ⟨by show [hidOf gen0] = _; rw [hz]; rfl, rfl, ⟨rfl, rfl, ?_⟩, ?_, ?_⟩
  · have hT : (newC gen0 k most).tip = hidOf gen0 := rfl
    rw [tipK_of (by rw [hT]; exact hK)]
    intro e he
    simp [newC] at he
    subst he
    exact betterK_false.2 ⟨Int.le_refl _, fun _ => Int.le_refl _⟩
  · intro j hj
    obtain rfl : j = 0 := by omega
    rw [← hz]
    exact ⟨_, hK, by show (1 : Int) = _; simp⟩
  · intro id x hx
    refine .inl ⟨0, by omega, ?_⟩
    rw [← hz]
    have hx2 : (if id = hidOf gen0 then some (⟨gen0.prev, 0, gen0.work, 0⟩ : KH) else none) = some x := hx
    by_cases q : id = hidOf gen0
    · exact q
    · rw [if_neg q] at hx2; cases hx2
theorem may_of {h : Hdr} (q : h.may) : mayB h = true := mayB_true.2 q
/-- one header more -/
theorem line_add {c : Ch} {I : List (List Nat)} {n i N : Nat} {wk : Nat → Int} (hI : IdsOk I n wk) {k w : Int} {S : List Int → KH → Prop} (hc : KOk c N) (ht : Tree c) (hN : N + 1 ≤ 100000) (hl : Line c I i k w S) (hi : i + 1 ≤ n) (hn : n ≤ 40) (hw : wk i = w) (hw1 : 1 ≤ w ∧ w ≤ 1000)
    (hS : ∀ id x, S id x → id ≠ idI I (i + 1)) {h : Hdr} (hh : h = ⟨idI I i, List.replicate 32 0, wk i, (i : Int)⟩) (hwf : h.wf) :
    hidOf h = idI I (i + 1) ∧ (addC c h).2.2 = 0 ∧ (addC c h).2.1.length = 1 ∧ Line (addC c h).1 I (i + 1) k w S ∧
    (∀ id x, findK id (addC c h).1.known = some x → id = idI I (i + 1) ∨ findK id c.known = some x) ∧
    (∀ id x, findK id c.known = some x → id ∉ lineW I (i + 1) → x.prev ∈ lineW I (i + 1) → findK id (addC c h).1.known = if x.height < ((i + 1 : Nat) : Int) - k then none else some x) := by
  have hid : hidOf h = idI I (i + 1) := by rw [hh]; exact hI.next i (by omega)
  have hp0 : h.prev = idI I i := by rw [hh]
  have hwork : h.work = w := by rw [hh]; exact hw
  have hm : mayB h = true := may_of (by unfold Hdr.may; rw [hwork, show h.nonce = (i : Int) by rw [hh]]; omega)
  obtain ⟨p, hp, hpw⟩ := hl.known i (Nat.le_refl i)
  have hne : ∀ j, j ≤ i → idI I j ≠ idI I (i + 1) := fun j hj q => by
    have := hI.inj j (i + 1) (by omega) (by omega) q
    omega
  have hfresh : findK (hidOf h) c.known = none := by
    rw [hid]
    cases q : findK (idI I (i + 1)) c.known with
    | none => rfl
    | some x =>
      rcases hl.only _ x q with ⟨j, hj, e⟩ | g
      · exact absurd e.symm (hne j hj)
      · exact absurd rfl (hS _ _ g)
  have hk0 := hc.hk.1
  have htK : c.tipK = p := tipK_of (by rw [hl.tip]; exact hp)
  have hwl : c.way.length = i + 1 := by rw [hl.way, lineW_len]
  obtain ⟨a1, a2, a3, a4, a5, a6, a7, a8, a9⟩ := add_over hc ht hN hl.calm hwf hm hfresh (f := i) (by rw [hl.way, hp0]; exact lineW_get I (Nat.le_refl i)) (by rw [hwl]; omega) (p := p) (by rw [hp0]; exact hp) (by rw [htK, hwork]; omega)
  rw [hid] at a2 a3 a6 a7 a8
  have hway : (addC c h).1.way = lineW I (i + 1) := by
    rw [a3, hl.way, lineW_take I (Nat.le_refl i), lineW_succ]
  refine ⟨hid, a1, ?_, ⟨hway, a4.trans hl.k, a5, ?_, ?_⟩, ?_, ?_⟩
  · rw [a2, hwl, show i + 1 - 1 - i = 0 by omega]; rfl
  · intro j hj
    rcases Nat.lt_or_ge i j with g | g
    · obtain rfl : j = i + 1 := by omega
      refine ⟨_, a8, ?_⟩
      simp only []
      rw [hpw, hwork]
      have : w * ((i + 1 : Nat) : Int) = w * (i : Int) + w := by rw [Int.natCast_succ, Int.mul_add, Int.mul_one]
      omega
    · obtain ⟨x, hx, hxw⟩ := hl.known j g
      exact ⟨x, a7 _ x hx (hne j g) (by rw [hway]; exact lineW_mem.2 ⟨j, by omega, rfl⟩), hxw⟩
  · intro id x hx
    rcases a6 id x hx with ⟨g, _⟩ | ⟨_, g⟩
    · exact .inl ⟨i + 1, Nat.le_refl _, g⟩
    · rcases hl.only id x g with ⟨j, hj, e⟩ | g2
      · exact .inl ⟨j, by omega, e⟩
      · exact .inr g2
  · intro id x hx
    rcases a6 id x hx with ⟨g, _⟩ | ⟨_, g⟩
    · exact .inl g
    · exact .inr g
  · intro id x hx h1 h2
    rw [← hway] at h1 h2
    have := a9 id x hx h1 h2
    rw [hway, lineW_len, hl.k] at this
    rw [this]
    congr 1
    apply propext
    omega
/-- what comes on one that is too deep, and what comes on one that is not -/
theorem deep_end {c : Ch} {n f N : Nat} {k : Int} (hc : KOk c N) (ht : Tree c) (hN : N + 1 ≤ 100000) (hl : Line c idsD n k 1 fun _ _ => False) (hn : 1 ≤ n ∧ n ≤ 40) (hf : f ≤ n) {h : Hdr} (hh : h = ⟨idI idsD f, List.replicate 32 0, 1000, (n : Int)⟩) (hwf : h.wf) :
    ((f : Int) < n - k → addC c h = (c, [], 8)) ∧ (¬ (f : Int) < n - k → (addC c h).2.2 = 0 ∧ (addC c h).2.1.length = n - f + 1 ∧ (addC c h).1.way.length = f + 1 + 1 ∧ (addC c h).1.tip = hidOf h) := by
  have hp0 : h.prev = idI idsD f := by rw [hh]
  have hwork : h.work = 1000 := by rw [hh]
  have hm : mayB h = true := may_of (by unfold Hdr.may; rw [hwork, show h.nonce = (n : Int) by rw [hh]]; omega)
  obtain ⟨p, hp, hpw⟩ := hl.known f hf
  obtain ⟨K, hK, hKw⟩ := hl.known n (Nat.le_refl n)
  have hfresh : findK (hidOf h) c.known = none := by
    cases q : findK (hidOf h) c.known with
    | none => rfl
    | some x =>
      rcases hl.only _ x q with ⟨j, hj, e⟩ | g
      · rw [hh] at e
        exact absurd e (apartD (by omega) (by omega) (by omega))
      · exact g.elim
  have hwl : c.way.length = n + 1 := by rw [hl.way, lineW_len]
  have hkk := hl.k
  have htK : c.tipK = K := tipK_of (by rw [hl.tip]; exact hK)
  have hfw : c.way[f]? = some h.prev := by rw [hl.way, hp0]; exact lineW_get idsD hf
  obtain ⟨x0, hx0, hxh, _⟩ := ht.way f _ hfw
  rw [hp0, hp] at hx0; cases hx0
  constructor
  · intro q
    exact add_old hm hl.calm.go hl.calm.orp hfresh (p := p) (by rw [hp0]; exact hp) (deep_true (by rw [hwl]; omega))
  · intro q
    obtain ⟨a1, a2, a3, a4, a5, a6, a7, a8, a9⟩ := add_over hc ht hN hl.calm hwf hm hfresh (f := f) hfw (by rw [hwl]; omega) (p := p) (by rw [hp0]; exact hp) (by rw [htK, hwork]; omega)
    have hl3 : (addC c h).1.way.length = f + 1 + 1 := by rw [a3, List.length_append, List.length_take, hwl]; simp; omega
    refine ⟨a1, ?_, hl3, ?_⟩
    · rw [a2, List.length_append, evDown_length, hwl]; simp
    · unfold Ch.tip
      rw [hl3, show f + 1 + 1 - 1 = f + 1 by omega, a3]
      have : (c.way.take (f + 1)).length = f + 1 := by rw [List.length_take, hwl]; omega
      simp [List.getD_eq_getElem?_getD, this]

/-! ### moulds of headers that stand on one another -/
def mline (w : Int) (n : Nat) : List Md := (List.range n).map fun (j : Nat) => (⟨(j : Int), w⟩ : Md)
@[simp] theorem mline_len (w : Int) (n : Nat) : (mline w n).length = n := by simp [mline]
theorem mline_succ (w : Int) (n : Nat) : mline w (n + 1) = mline w n ++ [⟨(n : Int), w⟩] := by unfold mline; rw [List.range_succ, List.map_append]; rfl
theorem mline_get {w : Int} {n j : Nat} (h : j < n) : (mline w n)[j]? = some ⟨(j : Int), w⟩ := by simp [mline, h]
theorem rowMd_snoc (l : List Md) (n : Nat) (m : Md) (hn : n = l.length) : (List.drop 0 (rowMd l)).take n ++ List.take 1 (List.drop 0 [(AV.agg [AV.int .i64 m.up, AV.int .i64 m.work]).segs]) = rowMd (l ++ [m]) := by
  subst hn
  rw [List.drop_zero, List.take_of_length_le (by simp)]; simp [rowMd, AV.segs]
end Go.Aw
