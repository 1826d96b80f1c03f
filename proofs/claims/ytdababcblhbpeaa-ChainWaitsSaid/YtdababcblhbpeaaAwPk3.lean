/-
  AwPk3: bytes side by side; the sum of texts of one length, for the kernel to compute. Own work.
-/
import Derived.Test.YtdababcblhbpeaaAwPk2
set_option linter.unusedVariables false
set_option linter.unusedSimpArgs false
set_option maxRecDepth 20000
namespace Go.Aw

/-- four bytes of each lane, as words -/
def joinP (a b c d : Nat) : Nat := Nat.add (Nat.add (Nat.add (Nat.mul a 16777216) (Nat.mul b 65536)) (Nat.mul c 256)) d
/-- so many words, the last one first; what is done with them, and with the bytes behind -/
noncomputable def rdP {α : Type} (r : Nat) (K : List Nat → List Nat → α) : List Nat → List Nat → α :=
  @Nat.rec (fun _ => List Nat → List Nat → α) (fun B acc => K acc B)
    (fun _ ih B acc => force (joinP (hdP B) (hdP (tlP B)) (hdP (tlP (tlP B))) (hdP (tlP (tlP (tlP B))))) fun w => ih (tlP (tlP (tlP (tlP B)))) (w :: acc)) r
theorem rdP_succ {α : Type} (r : Nat) (K : List Nat → List Nat → α) (a b c d : Nat) (B acc : List Nat) : rdP (r + 1) K (a :: b :: c :: d :: B) acc = rdP r K B (joinP a b c d :: acc) := by
  have q : rdP (r + 1) K (a :: b :: c :: d :: B) acc = force (joinP a b c d) fun w => rdP r K B (w :: acc) := rfl
  rw [q, force_eq]
/-- so many blocks -/
noncomputable def blkP (M : Nat) (ks : List Nat) (r : Nat) : List Nat → PS → PS :=
  @Nat.rec (fun _ => List Nat → PS → PS) (fun _ s => s) (fun _ ih B s => rdP 16 (fun m B' => ih B' (comprP M ks s m)) B []) r
theorem blkP_succ (M : Nat) (ks : List Nat) (r : Nat) (B : List Nat) (s : PS) : blkP M ks (r + 1) B s = rdP 16 (fun m B' => blkP M ks r B' (comprP M ks s m)) B [] := rfl
def ivP (n : Nat) : PS := ⟨0x6A09E667 * onesN n, 0xBB67AE85 * onesN n, 0x3C6EF372 * onesN n, 0xA54FF53A * onesN n, 0x510E527F * onesN n, 0x9B05688C * onesN n, 0x1F83D9AB * onesN n, 0x5BE0CD19 * onesN n⟩
theorem ivP_eq (n : Nat) : ivP n = pkS n fun _ => ivS := by
  unfold ivP pkS
  simp only [pk_const]
  rfl

/-- bytes side by side are those of the lanes' texts -/
structure PkB (n : Nat) (B : List Nat) (m : Nat → List Int) : Prop where
  len : ∀ l, l < n → (m l).length = B.length
  get : ∀ p, p < B.length → B.getD p 0 = pk n fun l => bW ((m l).getD p 0)
  byte : ∀ l, l < n → ∀ c ∈ m l, 0 ≤ c ∧ c ≤ 255

theorem getD_app {α : Type} (d : α) (a b : List α) (p : Nat) : (a ++ b).getD p d = if p < a.length then a.getD p d else b.getD (p - a.length) d := by
  simp only [List.getD_eq_getElem?_getD]
  split
  · rename_i h; rw [List.getElem?_append_left h]
  · rename_i h; rw [List.getElem?_append_right (by omega)]
theorem PkB.app {n : Nat} {A B : List Nat} {a b : Nat → List Int} (h1 : PkB n A a) (h2 : PkB n B b) : PkB n (A ++ B) (fun l => a l ++ b l) := by
  refine ⟨fun l hl => by simp [h1.len l hl, h2.len l hl], fun p hp => ?_, fun l hl c hc => ?_⟩
  · rw [getD_app]
    simp only [List.length_append] at hp
    split
    · rename_i h
      rw [h1.get p h]
      exact pk_congr fun l hl => by rw [getD_app, if_pos (by rw [h1.len l hl]; exact h)]
    · rename_i h
      rw [h2.get _ (by omega)]
      exact pk_congr fun l hl => by rw [getD_app, if_neg (by rw [h1.len l hl]; exact h), h1.len l hl]
  · rcases List.mem_append.1 hc with g | g
    · exact h1.byte l hl c g
    · exact h2.byte l hl c g
theorem PkB.rep {n : Nat} (k : Nat) (x : Nat) (c : Nat → Int) (hx : x = pk n fun l => bW (c l)) (hc : ∀ l, l < n → 0 ≤ c l ∧ c l ≤ 255) : PkB n (List.replicate k x) (fun l => List.replicate k (c l)) := by
  refine ⟨fun l hl => by simp, fun p hp => ?_, fun l hl y hy => ?_⟩
  · simp at hp
    simp only [List.getD_eq_getElem?_getD, List.getElem?_replicate, if_pos hp, Option.getD_some]
    exact hx
  · simp at hy; rw [hy.2]; exact hc l hl
/-- the same bytes in each lane -/
theorem PkB.same {n : Nat} (bs : List Nat) (h : ∀ b ∈ bs, b ≤ 255) : PkB n (bs.map (· * onesN n)) (fun _ => bs.map Int.ofNat) := by
  refine ⟨fun l hl => by simp, fun p hp => ?_, fun l hl c hc => ?_⟩
  · simp at hp
    have e : bs[p]? = some bs[p] := List.getElem?_eq_getElem hp
    simp only [List.getD_eq_getElem?_getD, List.getElem?_map, e, Option.map_some, Option.getD_some]
    rw [pk_const]
    congr 1
    have := h bs[p] (List.getElem_mem hp)
    unfold bW
    show _ = (BitVec.ofInt 32 ((bs[p] : Nat) : Int)).toNat
    rw [BitVec.ofInt_natCast, BitVec.toNat_ofNat]; omega
  · simp at hc
    obtain ⟨b, hb, rfl⟩ := hc
    have := h b hb
    exact ⟨Int.natCast_nonneg _, by show ((b : Nat) : Int) ≤ 255; omega⟩

theorem pk_mul (k : Nat) : ∀ (n : Nat) (f g : Nat → W32), (∀ i, i < n → (g i).toNat = (f i).toNat * k) → pk n f * k = pk n g
  | 0, _, _, _ => by simp [pk]
  | n + 1, f, g, h => by
    simp only [pk]
    rw [← pk_mul k n (fun i => f (i + 1)) (fun i => g (i + 1)) (fun i hi => h (i + 1) (by omega)), h 0 (by omega), Nat.add_mul, Nat.mul_assoc]
theorem pk_sum : ∀ (n : Nat) (f g h : Nat → W32), (∀ i, i < n → (h i).toNat = (f i).toNat + (g i).toNat) → pk n f + pk n g = pk n h
  | 0, _, _, _, _ => by simp [pk]
  | n + 1, f, g, h, q => by
    simp only [pk]
    rw [← pk_sum n (fun i => f (i + 1)) (fun i => g (i + 1)) (fun i => h (i + 1)) (fun i hi => q (i + 1) (by omega)), q 0 (by omega)]; omega
theorem bW_nat {c : Int} (h : 0 ≤ c ∧ c ≤ 255) : (bW c).toNat = c.toNat ∧ (bW c).toNat ≤ 255 := by
  obtain ⟨k, rfl⟩ := Int.eq_ofNat_of_zero_le h.1
  unfold bW
  rw [BitVec.ofInt_natCast, BitVec.toNat_ofNat]
  omega
theorem word_nat {a b c d : W32} (ha : a.toNat ≤ 255) (hb : b.toNat ≤ 255) (hc : c.toNat ≤ 255) (hd : d.toNat ≤ 255) :
    (a <<< 24 ||| b <<< 16 ||| c <<< 8 ||| d <<< 0).toNat = a.toNat * 16777216 + b.toNat * 65536 + c.toNat * 256 + d.toNat := by
  simp only [BitVec.toNat_or, BitVec.toNat_shiftLeft, Nat.shiftLeft_zero]
  have e1 : a.toNat <<< 24 % 2 ^ 32 = a.toNat <<< 24 := Nat.mod_eq_of_lt (by rw [Nat.shiftLeft_eq]; omega)
  have e2 : b.toNat <<< 16 % 2 ^ 32 = b.toNat <<< 16 := Nat.mod_eq_of_lt (by rw [Nat.shiftLeft_eq]; omega)
  have e3 : c.toNat <<< 8 % 2 ^ 32 = c.toNat <<< 8 := Nat.mod_eq_of_lt (by rw [Nat.shiftLeft_eq]; omega)
  have e4 : d.toNat % 2 ^ 32 = d.toNat := Nat.mod_eq_of_lt (by omega)
  rw [e1, e2, e3, e4]
  rw [Nat.or_assoc, Nat.or_assoc]
  rw [← Nat.shiftLeft_add_eq_or_of_lt (i := 8) (b := d.toNat) (by omega) c.toNat]
  rw [← Nat.shiftLeft_add_eq_or_of_lt (i := 16) (b := c.toNat <<< 8 + d.toNat) (by rw [Nat.shiftLeft_eq]; omega) b.toNat]
  rw [← Nat.shiftLeft_add_eq_or_of_lt (i := 24) (b := b.toNat <<< 16 + (c.toNat <<< 8 + d.toNat)) (by rw [Nat.shiftLeft_eq, Nat.shiftLeft_eq]; omega) a.toNat]
  simp only [Nat.shiftLeft_eq]
  omega
theorem joinP_pk {n : Nat} (a b c d : Nat → W32) (ha : ∀ i, i < n → (a i).toNat ≤ 255) (hb : ∀ i, i < n → (b i).toNat ≤ 255) (hc : ∀ i, i < n → (c i).toNat ≤ 255) (hd : ∀ i, i < n → (d i).toNat ≤ 255) :
    joinP (pk n a) (pk n b) (pk n c) (pk n d) = pk n fun i => a i <<< 24 ||| b i <<< 16 ||| c i <<< 8 ||| d i <<< 0 := by
  have e : ∀ (x : Nat → W32) (k j : Nat), (∀ i, i < n → (x i).toNat ≤ 255) → k = 2 ^ j → j ≤ 24 → pk n x * k = pk n fun i => x i <<< j := by
    intro x k j h hk hj
    refine pk_mul k n _ _ fun i hi => ?_
    rw [BitVec.toNat_shiftLeft, Nat.shiftLeft_eq, hk]
    apply Nat.mod_eq_of_lt
    have h1 := h i hi
    have h2 : 2 ^ j ≤ 2 ^ 24 := Nat.pow_le_pow_right (by decide) hj
    have : (x i).toNat * 2 ^ j ≤ 255 * 2 ^ 24 := Nat.mul_le_mul h1 h2
    omega
  show pk n a * 16777216 + pk n b * 65536 + pk n c * 256 + pk n d = _
  rw [e a 16777216 24 ha (by decide) (by decide), e b 65536 16 hb (by decide) (by decide), e c 256 8 hc (by decide) (by decide)]
  have q : ∀ i, i < n → (a i <<< 24).toNat = (a i).toNat * 16777216 ∧ (b i <<< 16).toNat = (b i).toNat * 65536 ∧ (c i <<< 8).toNat = (c i).toNat * 256 := by
    intro i hi
    have h1 := ha i hi
    have h2 := hb i hi
    have h3 := hc i hi
    simp only [BitVec.toNat_shiftLeft, Nat.shiftLeft_eq]
    refine ⟨Nat.mod_eq_of_lt (by omega), Nat.mod_eq_of_lt (by omega), Nat.mod_eq_of_lt (by omega)⟩
  have w := fun i (hi : i < n) => word_nat (ha i hi) (hb i hi) (hc i hi) (hd i hi)
  rw [pk_sum n _ _ (fun i => a i <<< 24 + b i <<< 16) (fun i hi => ?_), pk_sum n _ _ (fun i => a i <<< 24 + b i <<< 16 + c i <<< 8) (fun i hi => ?_), pk_sum n _ _ (fun i => a i <<< 24 ||| b i <<< 16 ||| c i <<< 8 ||| d i <<< 0) (fun i hi => ?_)]
  all_goals
    obtain ⟨q1, q2, q3⟩ := q i hi
    have h1 := ha i hi
    have h2 := hb i hi
    have h3 := hc i hi
    have h4 := hd i hi
    have w := w i hi
  · rw [w, BitVec.toNat_add, BitVec.toNat_add, q1, q2, q3]; omega
  · rw [BitVec.toNat_add (_ + _), BitVec.toNat_add, q1, q2, q3]; omega
  · rw [BitVec.toNat_add, q1, q2]; omega

/-- a block's words out of its bytes -/
theorem rdP_pk {α : Type} {n : Nat} {B : List Nat} {m : Nat → List Int} (h : PkB n B m) (K : List Nat → List Nat → α) : ∀ (r t q : Nat), q + 4 * (t + r) ≤ B.length →
    rdP r K (B.drop (q + 4 * t)) (rowP n (fun l => (List.range 16).map fun i => wordAt ((m l).drop q) i) t) = rdP 0 K (B.drop (q + 4 * (t + r))) (rowP n (fun l => (List.range 16).map fun i => wordAt ((m l).drop q) i) (t + r)) ∨ 16 < t + r
  | 0, t, q, _ => .inl rfl
  | r + 1, t, q, hq => by
    rcases Nat.lt_or_ge 16 (t + (r + 1)) with g | g
    · exact .inr g
    have hd : ∀ p, p < B.length → B.drop p = B.getD p 0 :: B.drop (p + 1) := by
      intro p hp
      rw [List.drop_eq_getElem_cons hp]
      congr 1
      simp [List.getD_eq_getElem?_getD, List.getElem?_eq_getElem hp]
    rw [hd (q + 4 * t) (by omega), hd (q + 4 * t + 1) (by omega), hd (q + 4 * t + 1 + 1) (by omega), hd (q + 4 * t + 1 + 1 + 1) (by omega), rdP_succ]
    rw [h.get _ (by omega), h.get _ (by omega), h.get _ (by omega), h.get _ (by omega)]
    have hb : ∀ p, ∀ i, i < n → (bW ((m i).getD p 0)).toNat ≤ 255 := by
      intro p i hi
      refine (bW_nat ?_).2
      rcases Nat.lt_or_ge p (m i).length with hp | hp
      · simp only [List.getD_eq_getElem?_getD, List.getElem?_eq_getElem hp, Option.getD_some]
        exact h.byte i hi _ (List.getElem_mem hp)
      · simp [List.getD_eq_getElem?_getD, List.getElem?_eq_none hp]
    rw [joinP_pk _ _ _ _ (hb _) (hb _) (hb _) (hb _)]
    have e : (pk n fun i => bW ((m i).getD (q + 4 * t) 0) <<< 24 ||| bW ((m i).getD (q + 4 * t + 1) 0) <<< 16 ||| bW ((m i).getD (q + 4 * t + 1 + 1) 0) <<< 8 ||| bW ((m i).getD (q + 4 * t + 1 + 1 + 1) 0) <<< 0) ::
        rowP n (fun l => (List.range 16).map fun i => wordAt ((m l).drop q) i) t = rowP n (fun l => (List.range 16).map fun i => wordAt ((m l).drop q) i) (t + 1) := by
      conv => rhs; unfold rowP
      rw [List.range_succ (n := t), List.reverse_append]
      simp only [List.reverse_cons, List.reverse_nil, List.nil_append, List.singleton_append, List.map_cons]
      congr 1
      apply pk_congr
      intro i hi
      have : ((List.range 16).map fun j => wordAt ((m i).drop q) j).getD t 0 = wordAt ((m i).drop q) t := by
        simp [List.getD_eq_getElem?_getD, show t < 16 by omega]
      rw [this]
      unfold wordAt
      have z : ∀ j, ((m i).drop q).getD j 0 = (m i).getD (q + j) 0 := fun j => by simp [List.getD_eq_getElem?_getD, List.getElem?_drop]
      rw [z, z, z, z]
      rfl
    rw [e]
    have := rdP_pk h K r (t + 1) q (by omega)
    rw [show q + 4 * (t + 1) = q + 4 * t + 1 + 1 + 1 + 1 by omega, show t + 1 + r = t + (r + 1) by omega] at this
    exact this
theorem rdP_zero {α : Type} (K : List Nat → List Nat → α) (B acc : List Nat) : rdP 0 K B acc = K acc B := rfl
def wrd (m : Nat → List Int) (q l : Nat) : List W32 := (List.range 16).map fun i => wordAt ((m l).drop q) i
theorem rd16 {α : Type} {n : Nat} {B : List Nat} {m : Nat → List Int} (h : PkB n B m) (K : List Nat → List Nat → α) (q : Nat) (hq : q + 64 ≤ B.length) :
    rdP 16 K (B.drop q) [] = K (rowP n (wrd m q) 16) (B.drop (q + 64)) := by
  have h1 := rdP_pk h K 16 0 q (by omega)
  rcases h1 with h1 | h1
  case inr => omega
  rw [Nat.mul_zero, Nat.add_zero, Nat.zero_add, rdP_zero] at h1
  exact h1
theorem wrd_next {n : Nat} {B : List Nat} {m : Nat → List Int} (h : PkB n B m) {j l : Nat} (hl : l < n) (hj : 64 * (j + 1) ≤ B.length) : compr (stAt (m l) j) (wrd m (64 * j) l) = stAt (m l) (j + 1) := by
  rw [stAt_succ _ _ (by rw [h.len l hl]; omega)]
  refine congrArg (compr _) ?_
  unfold wordsOf wrd
  apply List.map_congr_left
  intro i hi
  simp at hi
  unfold wordAt
  have z : ∀ k, k < 64 → ((m l).drop (64 * j)).getD k 0 = (((m l).drop (64 * j)).take 64).getD k 0 := fun k hk => by
    simp [List.getD_eq_getElem?_getD, List.getElem?_take, hk]
  rw [z _ (by omega), z _ (by omega), z _ (by omega), z _ (by omega)]
theorem pkS_congr {n : Nat} {f g : Nat → St} (h : ∀ l, l < n → f l = g l) : pkS n f = pkS n g := by
  unfold pkS
  have q : ∀ (x : St → W32), (pk n fun i => x (f i)) = pk n fun i => x (g i) := fun x => pk_congr fun l hl => by rw [h l hl]
  rw [q St.a, q St.b, q St.c, q St.d, q St.e, q St.f, q St.g, q St.h]
theorem blkP_pk {n : Nat} {B : List Nat} {m : Nat → List Int} (h : PkB n B m) : ∀ (r j : Nat), 64 * (j + r) ≤ B.length →
    blkP (mskN n) (ksP n) r (B.drop (64 * j)) (pkS n fun l => stAt (m l) j) = pkS n fun l => stAt (m l) (j + r)
  | 0, j, _ => rfl
  | r + 1, j, hl => by
    rw [blkP_succ, rd16 h _ _ (by omega), comprP_pk _ _ (fun l hl => by simp [wrd]), show j + (r + 1) = (j + 1) + r by omega, show 64 * j + 64 = 64 * (j + 1) by omega]
    rw [← blkP_pk h r (j + 1) (by omega), pkS_congr fun l hll => wrd_next h hll (by omega)]
/-- the states behind texts of so many whole blocks -/
noncomputable def sumP (n k : Nat) (B : List Nat) : PS := blkP (mskN n) (ksP n) k B (ivP n)
theorem sumP_pk {n k : Nat} {B : List Nat} {m : Nat → List Int} (h : PkB n B m) (hk : B.length = 64 * k) : sumP n k B = pkS n fun l => (takesB (ivS, []) (m l)).1 := by
  unfold sumP
  have h1 := blkP_pk h k 0 (by omega)
  rw [Nat.mul_zero, List.drop_zero, Nat.zero_add] at h1
  rw [ivP_eq]
  have e0 : (fun l => stAt (m l) 0) = fun _ => ivS := by funext l; exact stAt_zero _
  rw [e0] at h1
  rw [h1]
  exact pkS_congr fun l hl => (stAt_all _ _ (by rw [h.len l hl]; omega)).symm
end Go.Aw
