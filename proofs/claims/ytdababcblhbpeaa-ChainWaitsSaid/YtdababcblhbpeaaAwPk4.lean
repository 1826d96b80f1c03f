/-
  AwPk4: texts of one byte, again and again: each byte is a lane; their sums, and those of one byte more. Own work.
-/
import Derived.Test.YtdababcblhbpeaaAwPk3
set_option linter.unusedVariables false
set_option linter.unusedSimpArgs false
set_option maxRecDepth 20000
namespace Go.Aw
/-- the lanes' own numbers: 0, 1, 2, .. -/
def cntN : Nat → Nat → Nat
  | 0, _ => 0
  | n + 1, k => k + 18446744073709551616 * cntN n (k + 1)
theorem cntN_eq : ∀ (n k : Nat), n + k ≤ 256 → cntN n k = pk n fun i => bW (((i + k : Nat) : Int))
  | 0, k, _ => rfl
  | n + 1, k, h => by
    simp only [cntN, pk]
    rw [cntN_eq n (k + 1) (by omega)]
    have e : (bW (((0 + k : Nat) : Int))).toNat = k := by
      have := (bW_nat (c := ((0 + k : Nat) : Int)) (by omega)).1
      rw [this]; omega
    rw [e]
    have e2 : (pk n fun i => bW ((i + (k + 1) : Nat) : Int)) = pk n fun i => bW ((i + 1 + k : Nat) : Int) := pk_congr fun i _ => by rw [show i + (k + 1) = i + 1 + k by omega]
    rw [e2]
def be8N (n : Nat) : List Nat := [n / 72057594037927936 % 256, n / 281474976710656 % 256, n / 1099511627776 % 256, n / 4294967296 % 256, n / 16777216 % 256, n / 65536 % 256, n / 256 % 256, n % 256]
def padN (n : Nat) : List Nat := 128 :: (List.replicate ((119 - n % 64) % 64) 0 ++ be8N (8 * n))
theorem padN_eq (n : Nat) : padL n = (padN n).map Int.ofNat := by
  have e : be8 (8 * (n : Int)) = (be8N (8 * n)).map Int.ofNat := by
    simp only [be8, be8N, List.map_cons, List.map_nil, Int.ofNat_eq_natCast]
    congr 1 <;> (try congr 1) <;> (try congr 1) <;> (try congr 1) <;> (try congr 1) <;> (try congr 1) <;> (try congr 1) <;> (try congr 1) <;> omega
  simp only [padL, padN, List.map_cons, List.map_append, List.map_replicate, e]
  rfl
theorem padN_bytes (n : Nat) : ∀ b ∈ padN n, b ≤ 255 := by
  intro b hb
  simp only [padN, be8N, List.mem_cons, List.mem_append, List.mem_replicate, List.not_mem_nil, or_false] at hb
  omega
theorem padN_len (n : Nat) : n + (padN n).length = 64 * ((n + 72) / 64) := by
  simp only [padN, be8N, List.length_cons, List.length_append, List.length_replicate, List.length_nil]
  omega
end Go.Aw
