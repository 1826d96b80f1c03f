/-
  AwPk2: the sum of many texts at once, each in a lane: for the kernel to compute. Own work.
-/
import Derived.Test.YtdababcblhbpeaaAwPk1
import Derived.Test.YtdababcblhbpeaaM6
set_option linter.unusedVariables false
set_option linter.unusedSimpArgs false
set_option maxRecDepth 20000
namespace Go.Aw

/-- a number is brought to its form before it is handed on -/
noncomputable def force {α : Type} (x : Nat) (k : Nat → α) : α := @Nat.rec (fun _ => α) (k 0) (fun n _ => k (Nat.succ n)) x
theorem force_eq {α : Type} (x : Nat) (k : Nat → α) : force x k = k x := by cases x <;> rfl

noncomputable def hdP (l : List Nat) : Nat := @List.rec Nat (fun _ => Nat) 0 (fun x _ _ => x) l
noncomputable def tlP (l : List Nat) : List Nat := @List.rec Nat (fun _ => List Nat) [] (fun _ r _ => r) l
noncomputable def nthP (i : Nat) : List Nat → Nat := @Nat.rec (fun _ => List Nat → Nat) hdP (fun _ ih l => ih (tlP l)) i
theorem nthP_eq : ∀ (i : Nat) (l : List Nat), nthP i l = l.getD i 0
  | 0, l => by cases l <;> rfl
  | i + 1, l => by
    show nthP i (tlP l) = _
    rw [nthP_eq i]
    cases l <;> rfl

def addP (M x y : Nat) : Nat := Nat.land (Nat.add x y) M
def rotP (M k k' x : Nat) : Nat := Nat.land (Nat.lor (Nat.shiftRight x k) (Nat.shiftLeft x k')) M
def sg0P (M x : Nat) : Nat := Nat.xor (Nat.xor (rotP M 2 30 x) (rotP M 13 19 x)) (rotP M 22 10 x)
def sg1P (M x : Nat) : Nat := Nat.xor (Nat.xor (rotP M 6 26 x) (rotP M 11 21 x)) (rotP M 25 7 x)
def sm0P (M x : Nat) : Nat := Nat.xor (Nat.xor (rotP M 7 25 x) (rotP M 18 14 x)) (Nat.land (Nat.shiftRight x 3) M)
def sm1P (M x : Nat) : Nat := Nat.xor (Nat.xor (rotP M 17 15 x) (rotP M 19 13 x)) (Nat.land (Nat.shiftRight x 10) M)
def chP (e f g : Nat) : Nat := Nat.xor g (Nat.land e (Nat.xor f g))
def mjP (a b c : Nat) : Nat := Nat.lor (Nat.land a b) (Nat.land c (Nat.lor a b))

section
variable {n : Nat}
theorem addP_pk (f g : Nat → W32) : addP (mskN n) (pk n f) (pk n g) = pk n (fun i => f i + g i) := pk_add n f g
theorem rotP_pk (k : Nat) (hk : k ≤ 32) (f : Nat → W32) : rotP (mskN n) k (32 - k) (pk n f) = pk n (fun i => rotr (f i) k) := pk_rotr k hk n f
theorem sg0P_pk (f : Nat → W32) : sg0P (mskN n) (pk n f) = pk n (fun i => sg0 (f i)) := by
  unfold sg0P
  rw [show (30 : Nat) = 32 - 2 by decide, show (19 : Nat) = 32 - 13 by decide, show (10 : Nat) = 32 - 22 by decide, rotP_pk 2 (by decide), rotP_pk 13 (by decide), rotP_pk 22 (by decide)]
  exact (congrArg (fun x => x ^^^ _) (pk_xor n _ _)).trans (pk_xor n _ _)
theorem sg1P_pk (f : Nat → W32) : sg1P (mskN n) (pk n f) = pk n (fun i => sg1 (f i)) := by
  unfold sg1P
  rw [show (26 : Nat) = 32 - 6 by decide, show (21 : Nat) = 32 - 11 by decide, show (7 : Nat) = 32 - 25 by decide, rotP_pk 6 (by decide), rotP_pk 11 (by decide), rotP_pk 25 (by decide)]
  exact (congrArg (fun x => x ^^^ _) (pk_xor n _ _)).trans (pk_xor n _ _)
theorem shrP_pk (k : Nat) (hk : k ≤ 32) (f : Nat → W32) : Nat.land (Nat.shiftRight (pk n f) k) (mskN n) = pk n (fun i => f i >>> k) := pk_shr k hk n f
theorem sm0P_pk (f : Nat → W32) : sm0P (mskN n) (pk n f) = pk n (fun i => sm0 (f i)) := by
  unfold sm0P
  rw [show (25 : Nat) = 32 - 7 by decide, show (14 : Nat) = 32 - 18 by decide, rotP_pk 7 (by decide), rotP_pk 18 (by decide), shrP_pk 3 (by decide)]
  exact (congrArg (fun x => x ^^^ _) (pk_xor n _ _)).trans (pk_xor n _ _)
theorem sm1P_pk (f : Nat → W32) : sm1P (mskN n) (pk n f) = pk n (fun i => sm1 (f i)) := by
  unfold sm1P
  rw [show (15 : Nat) = 32 - 17 by decide, show (13 : Nat) = 32 - 19 by decide, rotP_pk 17 (by decide), rotP_pk 19 (by decide), shrP_pk 10 (by decide)]
  exact (congrArg (fun x => x ^^^ _) (pk_xor n _ _)).trans (pk_xor n _ _)
theorem chP_pk (e f g : Nat → W32) : chP (pk n e) (pk n f) (pk n g) = pk n (fun i => chW (e i) (f i) (g i)) := by
  unfold chP
  have h1 : Nat.xor (pk n f) (pk n g) = _ := pk_xor n f g
  rw [h1]
  have h2 : Nat.land (pk n e) (pk n fun i => f i ^^^ g i) = _ := pk_and n _ _
  rw [h2]
  exact pk_xor n _ _
theorem mjP_pk (a b c : Nat → W32) : mjP (pk n a) (pk n b) (pk n c) = pk n (fun i => mjW (a i) (b i) (c i)) := by
  unfold mjP
  have h1 : Nat.lor (pk n a) (pk n b) = _ := pk_or n a b
  have h2 : Nat.land (pk n a) (pk n b) = _ := pk_and n a b
  rw [h1, h2]
  have h3 : Nat.land (pk n c) (pk n fun i => a i ||| b i) = _ := pk_and n _ _
  rw [h3]
  exact pk_or n _ _
end

/-- states side by side -/
structure PS where
  a : Nat
  b : Nat
  c : Nat
  d : Nat
  e : Nat
  f : Nat
  g : Nat
  h : Nat
def pkS (n : Nat) (s : Nat → St) : PS :=
  ⟨pk n fun i => (s i).a, pk n fun i => (s i).b, pk n fun i => (s i).c, pk n fun i => (s i).d, pk n fun i => (s i).e, pk n fun i => (s i).f, pk n fun i => (s i).g, pk n fun i => (s i).h⟩

noncomputable def goP (M : Nat) (ks : List Nat) : List Nat → Nat → Nat → Nat → Nat → Nat → Nat → Nat → Nat → PS :=
  @List.rec Nat (fun _ => List Nat → Nat → Nat → Nat → Nat → Nat → Nat → Nat → Nat → PS) (fun _ a b c d e f g h => ⟨a, b, c, d, e, f, g, h⟩)
    (fun k _ ih ws a b c d e f g h =>
      force (addP M (addP M (addP M (addP M h (sg1P M e)) (chP e f g)) k) (hdP ws)) fun t1 =>
      force (addP M t1 (addP M (sg0P M a) (mjP a b c))) fun a' =>
      force (addP M d t1) fun e' => ih (tlP ws) a' a b c e' e f g) ks
theorem goP_cons (M k : Nat) (ks ws : List Nat) (w a b c d e f g h : Nat) : goP M (k :: ks) (w :: ws) a b c d e f g h =
    goP M ks ws (addP M (addP M (addP M (addP M (addP M h (sg1P M e)) (chP e f g)) k) w) (addP M (sg0P M a) (mjP a b c))) a b c (addP M d (addP M (addP M (addP M (addP M h (sg1P M e)) (chP e f g)) k) w)) e f g := by
  have q : goP M (k :: ks) (w :: ws) a b c d e f g h =
      force (addP M (addP M (addP M (addP M h (sg1P M e)) (chP e f g)) k) w) fun t1 => force (addP M t1 (addP M (sg0P M a) (mjP a b c))) fun a' => force (addP M d t1) fun e' => goP M ks ws a' a b c e' e f g := rfl
  rw [q, force_eq, force_eq, force_eq]

theorem goP_pk {n : Nat} (s : Nat → St) (w : Nat → List W32) : ∀ (r t : Nat),
    goP (mskN n) ((List.range' t r).map fun i => (kW i).toNat * onesN n) ((List.range' t r).map fun i => pk n fun l => (w l).getD i 0)
      (pk n fun l => (sts (s l) (w l) t).a) (pk n fun l => (sts (s l) (w l) t).b) (pk n fun l => (sts (s l) (w l) t).c) (pk n fun l => (sts (s l) (w l) t).d)
      (pk n fun l => (sts (s l) (w l) t).e) (pk n fun l => (sts (s l) (w l) t).f) (pk n fun l => (sts (s l) (w l) t).g) (pk n fun l => (sts (s l) (w l) t).h) = pkS n fun l => sts (s l) (w l) (t + r)
  | 0, t => rfl
  | r + 1, t => by
    simp only [List.range'_succ, List.map_cons]
    rw [goP_cons]
    simp only [← pk_const, addP_pk, sg0P_pk, sg1P_pk, chP_pk, mjP_pk]
    rw [show t + (r + 1) = (t + 1) + r by omega, ← goP_pk s w r (t + 1)]
    simp only [pk_const]
    rfl

/-- the schedule, the newest word first -/
noncomputable def schP (M : Nat) (r : Nat) : List Nat → List Nat :=
  @Nat.rec (fun _ => List Nat → List Nat) (fun l => l)
    (fun _ ih l => force (addP M (addP M (addP M (nthP 15 l) (sm0P M (nthP 14 l))) (nthP 6 l)) (sm1P M (nthP 1 l))) fun x => ih (x :: l)) r
theorem schP_succ (M r : Nat) (l : List Nat) : schP M (r + 1) l = schP M r (addP M (addP M (addP M (nthP 15 l) (sm0P M (nthP 14 l))) (nthP 6 l)) (sm1P M (nthP 1 l)) :: l) := by
  have q : schP M (r + 1) l = force (addP M (addP M (addP M (nthP 15 l) (sm0P M (nthP 14 l))) (nthP 6 l)) (sm1P M (nthP 1 l))) fun x => schP M r (x :: l) := rfl
  rw [q, force_eq]
def rowP (n : Nat) (w : Nat → List W32) (t : Nat) : List Nat := (List.range t).reverse.map fun i => pk n fun l => (w l).getD i 0
theorem rowP_get (n : Nat) (w : Nat → List W32) (t : Nat) {i : Nat} (h : i < t) : (rowP n w t).getD i 0 = pk n fun l => (w l).getD (t - 1 - i) 0 := by
  unfold rowP
  simp only [List.getD_eq_getElem?_getD]
  rw [List.getElem?_map, List.getElem?_reverse (by simpa using h)]
  simp [List.length_range, show t - 1 - i < t by omega]
theorem sch_keep (m : List W32) (k : Nat) {i : Nat} (h : i < m.length + k) : (sch m (k + 1)).getD i 0 = (sch m k).getD i 0 := by
  simp only [sch, List.getD_eq_getElem?_getD]
  rw [List.getElem?_append_left (by rw [sch_length]; exact h)]
theorem rowP_keep (n : Nat) (m : Nat → List W32) (hm : ∀ l, l < n → (m l).length = 16) (k t : Nat) (h : t ≤ 16 + k) : rowP n (fun l => sch (m l) (k + 1)) t = rowP n (fun l => sch (m l) k) t := by
  unfold rowP
  apply List.map_congr_left
  intro i hi
  simp at hi
  exact pk_congr fun l hl => sch_keep _ _ (by rw [hm l hl]; omega)
theorem schP_pk {n : Nat} (m : Nat → List W32) (hm : ∀ l, l < n → (m l).length = 16) : ∀ (r k : Nat), schP (mskN n) r (rowP n (fun l => sch (m l) k) (16 + k)) = rowP n (fun l => sch (m l) (k + r)) (16 + (k + r))
  | 0, k => rfl
  | r + 1, k => by
    rw [schP_succ, nthP_eq, nthP_eq, nthP_eq, nthP_eq, rowP_get _ _ _ (by omega), rowP_get _ _ _ (by omega), rowP_get _ _ _ (by omega), rowP_get _ _ _ (by omega)]
    simp only [sm0P_pk, sm1P_pk, addP_pk]
    rw [show k + (r + 1) = (k + 1) + r by omega, ← schP_pk m hm r (k + 1)]
    congr 1
    rw [show 16 + (k + 1) = (16 + k) + 1 by omega]
    conv => rhs; unfold rowP
    rw [List.range_succ, List.reverse_append]
    simp only [List.reverse_cons, List.reverse_nil, List.nil_append, List.singleton_append, List.map_cons]
    congr 1
    · apply pk_congr
      intro l hl
      have : (sch (m l) (k + 1)).getD (16 + k) 0 = nextW (sch (m l) k) (16 + k) := by
        simp only [sch, List.getD_eq_getElem?_getD]
        rw [List.getElem?_append_right (by rw [sch_length, hm l hl]; omega), sch_length, hm l hl]
        simp
      simp only [this]
      unfold nextW
      rw [show 16 + k - 1 - 15 = 16 + k - 16 by omega, show 16 + k - 1 - 14 = 16 + k - 15 by omega, show 16 + k - 1 - 6 = 16 + k - 7 by omega, show 16 + k - 1 - 1 = 16 + k - 2 by omega]
    · exact (rowP_keep n m hm k (16 + k) (by omega)).symm

/-- one block: 'ks': the round's numbers in each lane; 'm': the sixteen words, the last one first -/
noncomputable def comprP (M : Nat) (ks : List Nat) (s : PS) (m : List Nat) : PS :=
  let t := goP M ks (schP M 48 m).reverse s.a s.b s.c s.d s.e s.f s.g s.h
  ⟨addP M s.a t.a, addP M s.b t.b, addP M s.c t.c, addP M s.d t.d, addP M s.e t.e, addP M s.f t.f, addP M s.g t.g, addP M s.h t.h⟩
def ksP (n : Nat) : List Nat := kT.map fun k => k * onesN n
theorem ksP_eq (n : Nat) : ksP n = (List.range' 0 64).map fun i => (kW i).toNat * onesN n := by
  unfold ksP
  have : kT = (List.range' 0 64).map fun i => (kW i).toNat := by decide +kernel
  rw [this, List.map_map]; rfl
theorem comprP_pk {n : Nat} (s : Nat → St) (m : Nat → List W32) (hm : ∀ l, l < n → (m l).length = 16) : comprP (mskN n) (ksP n) (pkS n s) (rowP n m 16) = pkS n fun l => compr (s l) (m l) := by
  unfold comprP
  have h1 : schP (mskN n) 48 (rowP n m 16) = rowP n (fun l => sch (m l) 48) 64 := by
    have := schP_pk m hm 48 0
    rw [Nat.zero_add] at this
    exact this
  rw [h1, ksP_eq]
  have h2 : (rowP n (fun l => sch (m l) 48) 64).reverse = (List.range' 0 64).map fun i => pk n fun l => (sch (m l) 48).getD i 0 := by
    unfold rowP
    rw [← List.map_reverse, List.reverse_reverse, List.range_eq_range']
  rw [h2]
  have h3 := goP_pk (n := n) s (fun l => sch (m l) 48) 64 0
  have e0 : ∀ l, sts (s l) (sch (m l) 48) 0 = s l := fun _ => rfl
  simp only [e0, Nat.zero_add] at h3
  simp only [pkS]
  rw [h3]
  simp only [pkS, addP_pk]
  rfl
end Go.Aw
