/-
  AwPk4: texts of one byte, again and again: each byte is a lane; their sums, and those of one byte more. Own work.
-/
import Derived.Test.YtdababcblhbpeaaAwPk3
set_option linter.unusedVariables false
set_option linter.unusedSimpArgs false
set_option maxRecDepth 20000
namespace Go.Aw
/-- the lanes' own numbers: 0, 1, 2, .. -/
def cntN : Nat → Nat → Nat
  | 0, _ => 0
  | n + 1, k => k + 18446744073709551616 * cntN n (k + 1)
theorem cntN_eq : ∀ (n k : Nat), n + k ≤ 256 → cntN n k = pk n fun i => bW (((i + k : Nat) : Int))
  | 0, k, _ => rfl
  | n + 1, k, h => by
    simp only [cntN, pk]
    rw [cntN_eq n (k + 1) (by omega)]
    have e : (bW (((0 + k : Nat) : Int))).toNat = k := by
      have := (bW_nat (c := ((0 + k : Nat) : Int)) (by omega)).1
      rw [this]; omega
    rw [e]
    have e2 : (pk n fun i => bW ((i + (k + 1) : Nat) : Int)) = pk n fun i => bW ((i + 1 + k : Nat) : Int) := pk_congr fun i _ => by rw [show i + (k + 1) = i + 1 + k by omega]
    rw [e2]
def be8N (n : Nat) : List Nat := [n / 72057594037927936 % 256, n / 281474976710656 % 256, n / 1099511627776 % 256, n / 4294967296 % 256, n / 16777216 % 256, n / 65536 % 256, n / 256 % 256, n % 256]
def padN (n : Nat) : List Nat := 128 :: (List.replicate ((119 - n % 64) % 64) 0 ++ be8N (8 * n))
theorem padN_eq (n : Nat) : padL n = (padN n).map Int.ofNat := by
  have e : be8 (8 * (n : Int)) = (be8N (8 * n)).map Int.ofNat := by
    simp only [be8, be8N, List.map_cons, List.map_nil, Int.ofNat_eq_natCast]
    congr 1 <;> (try congr 1) <;> (try congr 1) <;> (try congr 1) <;> (try congr 1) <;> (try congr 1) <;> (try congr 1) <;> (try congr 1) <;> omega
  simp only [padL, padN, List.map_cons, List.map_append, List.map_replicate, e]
  rfl
theorem padN_bytes (n : Nat) : ∀ b ∈ padN n, b ≤ 255 := by
  intro b hb
  simp only [padN, be8N, List.mem_cons, List.mem_append, List.mem_replicate, List.not_mem_nil, or_false] at hb
  omega
theorem padN_len (n : Nat) : n + (padN n).length = 64 * ((n + 72) / 64) := by
  simp only [padN, be8N, List.length_cons, List.length_append, List.length_replicate, List.length_nil]
  omega
/-- is each lane above 0? -/
def nzP (n x : Nat) : Bool := Nat.beq (Nat.land (Nat.add x (mskN n)) (Nat.mul 4294967296 (onesN n))) (Nat.mul 4294967296 (onesN n))
theorem nz_sound : ∀ (n : Nat) (f : Nat → W32), (pk n f + mskN n) &&& (4294967296 * onesN n) = 4294967296 * onesN n → ∀ i, i < n → f i ≠ 0
  | 0, f, _, i, hi => by omega
  | n + 1, f, h, i, hi => by
    have h1 := (f 0).isLt
    rw [msk_succ] at h
    simp only [pk, onesN, two_pow64] at h
    rw [show (f 0).toNat + 2 ^ 64 * pk n (fun i => f (i + 1)) + (4294967295 + 2 ^ 64 * mskN n) = ((f 0).toNat + 4294967295) + 2 ^ 64 * (pk n (fun i => f (i + 1)) + mskN n) by omega,
      show 4294967296 * (1 + 2 ^ 64 * onesN n) = 4294967296 + 2 ^ 64 * (4294967296 * onesN n) by omega] at h
    rw [join_and (by omega) (by decide)] at h
    have h2 : ((f 0).toNat + 4294967295) &&& 4294967296 < 2 ^ 64 := Nat.and_lt_two_pow _ (by decide)
    have h3 : (pk n (fun i => f (i + 1)) + mskN n) &&& (4294967296 * onesN n) = 4294967296 * onesN n := by omega
    have h4 : ((f 0).toNat + 4294967295) &&& 4294967296 = 4294967296 := by omega
    cases i with
    | zero =>
      intro g
      rw [g] at h4
      exact absurd h4 (by decide)
    | succ i => exact nz_sound n (fun i => f (i + 1)) h3 i (by omega)
theorem nzP_sound {n : Nat} {f : Nat → W32} (h : nzP n (pk n f) = true) : ∀ i, i < n → f i ≠ 0 := nz_sound n f (Nat.eq_of_beq_eq_true h)
theorem nz_apart {n : Nat} {f g : Nat → W32} (h : nzP n (Nat.xor (pk n f) (pk n g)) = true) : ∀ i, i < n → f i ≠ g i := by
  intro i hi e
  have h2 : Nat.xor (pk n f) (pk n g) = pk n fun i => f i ^^^ g i := pk_xor n f g
  rw [h2] at h
  exact nzP_sound h i hi (by rw [e]; simp)

theorem wordB_inj {x y : W32} (h : wordB x = wordB y) : x = y := by
  simp only [wordB, List.cons.injEq, and_true] at h
  obtain ⟨h1, h2, h3, h4⟩ := h
  have hx := x.isLt
  have hy := y.isLt
  unfold wI at h1 h2 h3 h4
  simp only [BitVec.toNat_ushiftRight, Nat.shiftRight_eq_div_pow] at h1 h2 h3
  apply BitVec.eq_of_toNat_eq
  omega
theorem outS_a {s t : St} (h : outS s = outS t) : s.a = t.a := by
  have h1 := congrArg (List.take 4) h
  simp only [outS, List.append_assoc] at h1
  rw [List.take_append_of_le_length (by simp [wordB]), List.take_append_of_le_length (by simp [wordB])] at h1
  exact wordB_inj (by simpa [wordB] using h1)
end Go.Aw
