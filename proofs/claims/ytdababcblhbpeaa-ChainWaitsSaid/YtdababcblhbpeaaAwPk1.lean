/-
  AwPk1: many words of 32 bits side by side in one number (64 bits a lane). Own work.
-/
import Derived.Test.YtdababcblhbpeaaM5
set_option linter.unusedVariables false
set_option linter.unusedSimpArgs false
namespace Go.Aw

/-- n words, each in a lane of 64 bits -/
def pk : Nat → (Nat → W32) → Nat
  | 0, _ => 0
  | n + 1, f => (f 0).toNat + 18446744073709551616 * pk n (fun i => f (i + 1))
/-- the same number in each lane -/
def onesN : Nat → Nat
  | 0 => 0
  | n + 1 => 1 + 18446744073709551616 * onesN n
def mskN (n : Nat) : Nat := 4294967295 * onesN n

theorem pk_congr : ∀ {n : Nat} {f g : Nat → W32}, (∀ i, i < n → f i = g i) → pk n f = pk n g
  | 0, _, _, _ => rfl
  | n + 1, f, g, h => by
    simp only [pk]
    rw [h 0 (by omega), pk_congr fun i hi => h (i + 1) (by omega)]

/-! the bits of two parts -/
theorem two_pow64 : (18446744073709551616 : Nat) = 2 ^ 64 := by decide
theorem tb_lo {a b i : Nat} (ha : a < 2 ^ 64) (h : i < 64) : (a + 2 ^ 64 * b).testBit i = a.testBit i := by
  rw [Nat.add_comm, Nat.testBit_two_pow_mul_add _ ha, if_pos h]
theorem tb_hi {a b i : Nat} (ha : a < 2 ^ 64) (h : ¬ i < 64) : (a + 2 ^ 64 * b).testBit i = b.testBit (i - 64) := by
  rw [Nat.add_comm, Nat.testBit_two_pow_mul_add _ ha, if_neg h]
theorem join_xor {a b c d : Nat} (ha : a < 2 ^ 64) (hc : c < 2 ^ 64) : (a + 2 ^ 64 * b) ^^^ (c + 2 ^ 64 * d) = (a ^^^ c) + 2 ^ 64 * (b ^^^ d) := by
  apply Nat.eq_of_testBit_eq
  intro i
  have hx : a ^^^ c < 2 ^ 64 := Nat.xor_lt_two_pow ha hc
  by_cases h : i < 64
  · rw [Nat.testBit_xor, tb_lo ha h, tb_lo hc h, tb_lo hx h, Nat.testBit_xor]
  · rw [Nat.testBit_xor, tb_hi ha h, tb_hi hc h, tb_hi hx h, Nat.testBit_xor]
theorem join_or {a b c d : Nat} (ha : a < 2 ^ 64) (hc : c < 2 ^ 64) : (a + 2 ^ 64 * b) ||| (c + 2 ^ 64 * d) = (a ||| c) + 2 ^ 64 * (b ||| d) := by
  apply Nat.eq_of_testBit_eq
  intro i
  have hx : a ||| c < 2 ^ 64 := Nat.or_lt_two_pow ha hc
  by_cases h : i < 64
  · rw [Nat.testBit_or, tb_lo ha h, tb_lo hc h, tb_lo hx h, Nat.testBit_or]
  · rw [Nat.testBit_or, tb_hi ha h, tb_hi hc h, tb_hi hx h, Nat.testBit_or]
theorem join_and {a b c d : Nat} (ha : a < 2 ^ 64) (hc : c < 2 ^ 64) : (a + 2 ^ 64 * b) &&& (c + 2 ^ 64 * d) = (a &&& c) + 2 ^ 64 * (b &&& d) := by
  apply Nat.eq_of_testBit_eq
  intro i
  have hx : a &&& c < 2 ^ 64 := Nat.and_lt_two_pow _ hc
  by_cases h : i < 64
  · rw [Nat.testBit_and, tb_lo ha h, tb_lo hc h, tb_lo hx h, Nat.testBit_and]
  · rw [Nat.testBit_and, tb_hi ha h, tb_hi hc h, tb_hi hx h, Nat.testBit_and]

theorem w_lt (x : W32) : x.toNat < 2 ^ 64 := Nat.lt_trans x.isLt (by decide)

theorem pk_xor : ∀ (n : Nat) (f g : Nat → W32), pk n f ^^^ pk n g = pk n (fun i => f i ^^^ g i)
  | 0, _, _ => by simp [pk]
  | n + 1, f, g => by
    simp only [pk, two_pow64]
    rw [join_xor (w_lt _) (w_lt _), pk_xor n, BitVec.toNat_xor]
theorem pk_and : ∀ (n : Nat) (f g : Nat → W32), pk n f &&& pk n g = pk n (fun i => f i &&& g i)
  | 0, _, _ => by simp [pk]
  | n + 1, f, g => by
    simp only [pk, two_pow64]
    rw [join_and (w_lt _) (w_lt _), pk_and n, BitVec.toNat_and]
theorem pk_or : ∀ (n : Nat) (f g : Nat → W32), pk n f ||| pk n g = pk n (fun i => f i ||| g i)
  | 0, _, _ => by simp [pk]
  | n + 1, f, g => by
    simp only [pk, two_pow64]
    rw [join_or (w_lt _) (w_lt _), pk_or n, BitVec.toNat_or]
theorem msk_succ (n : Nat) : mskN (n + 1) = 4294967295 + 2 ^ 64 * mskN n := by
  unfold mskN; simp only [onesN, two_pow64]; rw [Nat.mul_add, Nat.mul_one, Nat.mul_left_comm]
theorem and_msk (x : Nat) : x &&& 4294967295 = x % 2 ^ 32 := by
  rw [show (4294967295 : Nat) = 2 ^ 32 - 1 by decide, Nat.and_two_pow_sub_one_eq_mod]
theorem pk_const : ∀ (n : Nat) (x : W32), pk n (fun _ => x) = x.toNat * onesN n
  | 0, _ => by simp [pk, onesN]
  | n + 1, x => by
    simp only [pk, onesN]
    rw [pk_const n, Nat.mul_add, Nat.mul_one, Nat.mul_left_comm]
theorem pk_add : ∀ (n : Nat) (f g : Nat → W32), (pk n f + pk n g) &&& mskN n = pk n (fun i => f i + g i)
  | 0, _, _ => by simp [pk, mskN, onesN]
  | n + 1, f, g => by
    have h1 := (f 0).isLt
    have h2 := (g 0).isLt
    rw [msk_succ]
    simp only [pk, two_pow64]
    rw [show (f 0).toNat + 2 ^ 64 * pk n (fun i => f (i + 1)) + ((g 0).toNat + 2 ^ 64 * pk n fun i => g (i + 1)) = ((f 0).toNat + (g 0).toNat) + 2 ^ 64 * (pk n (fun i => f (i + 1)) + pk n fun i => g (i + 1)) by omega]
    rw [join_and (by omega) (by decide), pk_add n, and_msk, BitVec.toNat_add]
/-- shifted to the right, within each lane -/
theorem pk_shr (k : Nat) (hk : k ≤ 32) : ∀ (n : Nat) (f : Nat → W32), (pk n f >>> k) &&& mskN n = pk n (fun i => f i >>> k)
  | 0, f => by simp [pk]
  | n + 1, f => by
    have h1 := (f 0).isLt
    rw [msk_succ]
    have ih := pk_shr k hk n (fun i => f (i + 1))
    simp only [pk, two_pow64]
    rw [← ih, BitVec.toNat_ushiftRight]
    generalize pk n (fun i => f (i + 1)) = B
    generalize hA : (f 0).toNat = A at h1 ⊢
    have e1 : (A + 2 ^ 64 * B) >>> k = (A >>> k + 2 ^ (64 - k) * (B % 2 ^ k)) + 2 ^ 64 * (B >>> k) := by
      simp only [Nat.shiftRight_eq_div_pow]
      have e2 : (2 : Nat) ^ 64 = 2 ^ k * 2 ^ (64 - k) := by rw [← Nat.pow_add]; congr 1; omega
      have e3 := Nat.div_add_mod B (2 ^ k)
      have e4 : A + 2 ^ 64 * B = A + 2 ^ k * (2 ^ (64 - k) * B) := by rw [e2, Nat.mul_assoc]
      rw [e4, Nat.add_mul_div_left _ _ (Nat.two_pow_pos k)]
      have e5 : 2 ^ (64 - k) * B = 2 ^ (64 - k) * (B % 2 ^ k) + 2 ^ 64 * (B / 2 ^ k) := by
        conv => lhs; rw [← e3]
        rw [Nat.mul_add, e2, ← Nat.mul_assoc, Nat.mul_comm (2 ^ (64 - k)) (2 ^ k)]; omega
      omega
    have e6 : A >>> k + 2 ^ (64 - k) * (B % 2 ^ k) < 2 ^ 64 := by
      have g1 : A >>> k ≤ A := Nat.shiftRight_le _ _
      have g2 : A >>> k < 2 ^ (32 - k) := by
        rw [Nat.shiftRight_eq_div_pow]
        apply Nat.div_lt_of_lt_mul
        rw [← Nat.pow_add, show k + (32 - k) = 32 by omega]; exact h1
      have g3 : B % 2 ^ k < 2 ^ k := Nat.mod_lt _ (Nat.two_pow_pos k)
      have g4 : 2 ^ (64 - k) * (B % 2 ^ k) ≤ 2 ^ (64 - k) * (2 ^ k - 1) := Nat.mul_le_mul_left _ (by omega)
      have g5 : 2 ^ (64 - k) * (2 ^ k - 1) + 2 ^ (64 - k) = 2 ^ 64 := by
        have : 2 ^ (64 - k) * (2 ^ k - 1) + 2 ^ (64 - k) = 2 ^ (64 - k) * (2 ^ k - 1 + 1) := by rw [Nat.mul_add, Nat.mul_one]
        rw [this, Nat.sub_add_cancel (Nat.two_pow_pos k), ← Nat.pow_add]; congr 1; omega
      have g6 : 2 ^ (32 - k) ≤ 2 ^ (64 - k) := Nat.pow_le_pow_right (by decide) (by omega)
      omega
    rw [e1, join_and e6 (by decide), and_msk]
    congr 1
    have e7 : 2 ^ (64 - k) * (B % 2 ^ k) = 2 ^ 32 * (2 ^ (32 - k) * (B % 2 ^ k)) := by
      rw [← Nat.mul_assoc, ← Nat.pow_add]; congr 2; omega
    rw [e7, Nat.add_mul_mod_self_left]
    apply Nat.mod_eq_of_lt
    exact Nat.lt_of_le_of_lt (Nat.shiftRight_le _ _) h1
/-- shifted to the left, within each lane -/
theorem pk_shl (k : Nat) (hk : k ≤ 32) : ∀ (n : Nat) (f : Nat → W32), (pk n f <<< k) &&& mskN n = pk n (fun i => f i <<< k)
  | 0, f => by simp [pk]
  | n + 1, f => by
    have h1 := (f 0).isLt
    rw [msk_succ]
    have ih := pk_shl k hk n (fun i => f (i + 1))
    simp only [pk, two_pow64]
    rw [← ih, BitVec.toNat_shiftLeft]
    generalize pk n (fun i => f (i + 1)) = B
    generalize hA : (f 0).toNat = A at h1 ⊢
    have e1 : (A + 2 ^ 64 * B) <<< k = A <<< k + 2 ^ 64 * (B <<< k) := by
      simp only [Nat.shiftLeft_eq, Nat.add_mul, Nat.mul_assoc]
    have e6 : A <<< k < 2 ^ 64 := by
      rw [Nat.shiftLeft_eq]
      have g2 : 2 ^ k ≤ 2 ^ 32 := Nat.pow_le_pow_right (by decide) hk
      have : A * 2 ^ k ≤ (2 ^ 32 - 1) * 2 ^ 32 := Nat.mul_le_mul (by omega) g2
      omega
    rw [e1, join_and e6 (by decide), and_msk]
theorem pk_rotr (k : Nat) (hk : k ≤ 32) (n : Nat) (f : Nat → W32) : ((pk n f >>> k) ||| (pk n f <<< (32 - k))) &&& mskN n = pk n (fun i => rotr (f i) k) := by
  rw [Nat.and_or_distrib_right, pk_shr k hk, pk_shl (32 - k) (by omega), pk_or]
  rfl
end Go.Aw
