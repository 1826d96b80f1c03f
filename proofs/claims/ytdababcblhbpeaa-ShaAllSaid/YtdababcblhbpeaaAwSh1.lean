/-
  AwSh1: words of 32 bits as numbers; the sum of bytes (FIPS 180-4) as plain functions. Own work.
-/
import Derived.Test.YtdababcblhbpeaaAwT
import Derived.IntWalk
set_option linter.unusedVariables false
set_option linter.unusedSimpArgs false
namespace Go.Aw

abbrev W32 := BitVec 32
def wI (x : W32) : Int := (x.toNat : Int)
theorem wI_range (x : W32) : 0 ≤ wI x ∧ wI x < 4294967296 := by have := x.isLt; unfold wI; omega
theorem wI_inj {x y : W32} (h : wI x = wI y) : x = y := by unfold wI at h; apply BitVec.eq_of_toNat_eq; omega
theorem ofInt_wI (x : W32) : BitVec.ofInt 32 (wI x) = x := by unfold wI; rw [BitVec.ofInt_natCast, BitVec.ofNat_toNat]; simp
theorem wrap_wI (n : Int) : IntKind.u32.wrap n = wI (BitVec.ofInt 32 n) := by
  unfold wI
  rw [BitVec.toNat_ofInt]
  have h1 : IntKind.u32.wrap n = n % 4294967296 := by simp [IntKind.wrap, IntKind.bits, IntKind.signed]
  rw [h1]
  have : (2:Nat) ^ 32 = 4294967296 := by decide
  rw [this]
  omega
theorem wrap_self (x : W32) : IntKind.u32.wrap (wI x) = wI x := by rw [wrap_wI, ofInt_wI]
theorem w_add (x y : W32) : IntKind.u32.wrap (wI x + wI y) = wI (x + y) := by
  rw [wrap_wI, BitVec.ofInt_add, ofInt_wI, ofInt_wI]
theorem w_xor (x y : W32) : xorI .u32 (wI x) (wI y) = wI (x ^^^ y) := by
  unfold xorI
  show IntKind.u32.wrap (((BitVec.ofInt 32 (wI x) ^^^ BitVec.ofInt 32 (wI y)).toNat : Nat) : Int) = _
  rw [ofInt_wI, ofInt_wI]; exact wrap_self _
theorem w_and (x y : W32) : andI .u32 (wI x) (wI y) = wI (x &&& y) := by
  unfold andI
  show IntKind.u32.wrap (((BitVec.ofInt 32 (wI x) &&& BitVec.ofInt 32 (wI y)).toNat : Nat) : Int) = _
  rw [ofInt_wI, ofInt_wI]; exact wrap_self _
theorem w_or (x y : W32) : orI .u32 (wI x) (wI y) = wI (x ||| y) := by
  unfold orI
  show IntKind.u32.wrap (((BitVec.ofInt 32 (wI x) ||| BitVec.ofInt 32 (wI y)).toNat : Nat) : Int) = _
  rw [ofInt_wI, ofInt_wI]; exact wrap_self _
theorem w_shl (x : W32) (n : Nat) (h : n ≤ 32) : shlI .u32 (wI x) (n : Int) = wI (x <<< n) := by
  unfold shlI
  have e : min (n : Int).toNat IntKind.u32.bits = n := by simp [IntKind.bits]; omega
  rw [e, wrap_wI]
  congr 1
  apply BitVec.eq_of_toNat_eq
  rw [BitVec.toNat_ofInt, BitVec.toNat_shiftLeft, Nat.shiftLeft_eq]
  unfold wI
  have : ((x.toNat : Int) * 2 ^ n) % ((2 ^ 32 : Nat) : Int) = (((x.toNat * 2 ^ n) % 2 ^ 32 : Nat) : Int) := by
    rw [Int.natCast_emod, Int.natCast_mul, Int.natCast_pow]; rfl
  rw [this, Int.toNat_natCast]
theorem w_shr (x : W32) (n : Nat) (h : n ≤ 32) : shrI .u32 (wI x) (n : Int) = wI (x >>> n) := by
  unfold shrI
  have e : min (n : Int).toNat IntKind.u32.bits = n := by simp [IntKind.bits]; omega
  rw [e, Int.fdiv_eq_ediv_of_nonneg _ (by exact Int.le_of_lt (Int.pow_pos (by omega)))]
  unfold wI
  rw [BitVec.toNat_ushiftRight, Nat.shiftRight_eq_div_pow, Int.natCast_ediv, Int.natCast_pow]; rfl

def rotr (x : W32) (k : Nat) : W32 := x >>> k ||| x <<< (32 - k)
def sg0 (x : W32) : W32 := rotr x 2 ^^^ rotr x 13 ^^^ rotr x 22
def sg1 (x : W32) : W32 := rotr x 6 ^^^ rotr x 11 ^^^ rotr x 25
def sm0 (x : W32) : W32 := rotr x 7 ^^^ rotr x 18 ^^^ x >>> 3
def sm1 (x : W32) : W32 := rotr x 17 ^^^ rotr x 19 ^^^ x >>> 10
def chW (e f g : W32) : W32 := g ^^^ (e &&& (f ^^^ g))
def mjW (a b c : W32) : W32 := (a &&& b) ||| (c &&& (a ||| b))

structure St where
  a : W32
  b : W32
  c : W32
  d : W32
  e : W32
  f : W32
  g : W32
  h : W32
  deriving DecidableEq, Inhabited
def St.l (s : St) : List Int := [wI s.a, wI s.b, wI s.c, wI s.d, wI s.e, wI s.f, wI s.g, wI s.h]
def rnd (s : St) (k w : W32) : St :=
  ⟨s.h + sg1 s.e + chW s.e s.f s.g + k + w + (sg0 s.a + mjW s.a s.b s.c), s.a, s.b, s.c, s.d + (s.h + sg1 s.e + chW s.e s.f s.g + k + w), s.e, s.f, s.g⟩
def kT : List Nat := [
  0x428A2F98, 0x71374491, 0xB5C0FBCF, 0xE9B5DBA5, 0x3956C25B, 0x59F111F1, 0x923F82A4, 0xAB1C5ED5,
  0xD807AA98, 0x12835B01, 0x243185BE, 0x550C7DC3, 0x72BE5D74, 0x80DEB1FE, 0x9BDC06A7, 0xC19BF174,
  0xE49B69C1, 0xEFBE4786, 0x0FC19DC6, 0x240CA1CC, 0x2DE92C6F, 0x4A7484AA, 0x5CB0A9DC, 0x76F988DA,
  0x983E5152, 0xA831C66D, 0xB00327C8, 0xBF597FC7, 0xC6E00BF3, 0xD5A79147, 0x06CA6351, 0x14292967,
  0x27B70A85, 0x2E1B2138, 0x4D2C6DFC, 0x53380D13, 0x650A7354, 0x766A0ABB, 0x81C2C92E, 0x92722C85,
  0xA2BFE8A1, 0xA81A664B, 0xC24B8B70, 0xC76C51A3, 0xD192E819, 0xD6990624, 0xF40E3585, 0x106AA070,
  0x19A4C116, 0x1E376C08, 0x2748774C, 0x34B0BCB5, 0x391C0CB3, 0x4ED8AA4A, 0x5B9CCA4F, 0x682E6FF3,
  0x748F82EE, 0x78A5636F, 0x84C87814, 0x8CC70208, 0x90BEFFFA, 0xA4506CEB, 0xBEF9A3F7, 0xC67178F2]
def kW (i : Nat) : W32 := BitVec.ofNat 32 (kT.getD i 0)
def nextW (l : List W32) (i : Nat) : W32 := l.getD (i - 16) 0 + sm0 (l.getD (i - 15) 0) + l.getD (i - 7) 0 + sm1 (l.getD (i - 2) 0)
/-- the schedule's first 16 + n words -/
def sch (m : List W32) : Nat → List W32
  | 0 => m
  | n + 1 => sch m n ++ [nextW (sch m n) (16 + n)]
theorem sch_length (m : List W32) : ∀ n, (sch m n).length = m.length + n
  | 0 => rfl
  | n + 1 => by simp [sch, sch_length m n]; omega
/-- a state behind so many rounds -/
def sts (s : St) (w : List W32) : Nat → St
  | 0 => s
  | i + 1 => rnd (sts s w i) (kW i) (w.getD i 0)
def St.add (s t : St) : St := ⟨s.a + t.a, s.b + t.b, s.c + t.c, s.d + t.d, s.e + t.e, s.f + t.f, s.g + t.g, s.h + t.h⟩
def compr (s : St) (m : List W32) : St := s.add (sts s (sch m 48) 64)

/-- a byte as a word -/
def bW (c : Int) : W32 := BitVec.ofInt 32 c
def wordAt (p : List Int) (i : Nat) : W32 :=
  bW (p.getD (4 * i) 0) <<< 24 ||| bW (p.getD (4 * i + 1) 0) <<< 16 ||| bW (p.getD (4 * i + 2) 0) <<< 8 ||| bW (p.getD (4 * i + 3) 0) <<< 0
def wordsOf (p : List Int) : List W32 := (List.range 16).map (wordAt p)
theorem wordsOf_length (p : List Int) : (wordsOf p).length = 16 := by simp [wordsOf]
theorem wordsOf_get (p : List Int) {i : Nat} (h : i < 16) : (wordsOf p).getD i 0 = wordAt p i := by
  simp [wordsOf, List.getD_eq_getElem?_getD, h]

def ivS : St := ⟨0x6A09E667, 0xBB67AE85, 0x3C6EF372, 0xA54FF53A, 0x510E527F, 0x9B05688C, 0x1F83D9AB, 0x5BE0CD19⟩
/-- one byte more -/
def takeB (x : St × List Int) (c : Int) : St × List Int :=
  if x.2.length = 63 then (compr x.1 (wordsOf (x.2 ++ [c])), []) else (x.1, x.2 ++ [c])
def takesB (x : St × List Int) (l : List Int) : St × List Int := l.foldl takeB x
theorem takesB_append (x : St × List Int) (a b : List Int) : takesB x (a ++ b) = takesB (takesB x a) b := by simp [takesB]
theorem takesB_cons (x : St × List Int) (c : Int) (b : List Int) : takesB x (c :: b) = takesB (takeB x c) b := rfl
theorem takeB_length {x : St × List Int} (c : Int) (h : x.2.length < 64) : (takeB x c).2.length = (x.2.length + 1) % 64 := by
  unfold takeB
  split
  · rename_i g; simp [g]
  · simp; omega
theorem takesB_length : ∀ (l : List Int) {x : St × List Int}, x.2.length < 64 → (takesB x l).2.length = (x.2.length + l.length) % 64
  | [], x, h => by simp [takesB]; omega
  | c :: l, x, h => by
    rw [takesB_cons, takesB_length l (by rw [takeB_length c h]; omega), takeB_length c h]
    simp; omega

/-- a number's eight bytes, the highest first -/
def be8 (n : Int) : List Int := [n / 72057594037927936 % 256, n / 281474976710656 % 256, n / 1099511627776 % 256, n / 4294967296 % 256, n / 16777216 % 256, n / 65536 % 256, n / 256 % 256, n % 256]
def padL (n : Nat) : List Int := 128 :: (List.replicate ((119 - n % 64) % 64) 0 ++ be8 (8 * (n : Int)))
def wordB (x : W32) : List Int := [wI (x >>> 24) % 256, wI (x >>> 16) % 256, wI (x >>> 8) % 256, wI x % 256]
def outS (s : St) : List Int := wordB s.a ++ wordB s.b ++ wordB s.c ++ wordB s.d ++ wordB s.e ++ wordB s.f ++ wordB s.g ++ wordB s.h
/-- the sum of bytes -/
def shaL (l : List Int) : List Int := outS (takesB (ivS, []) (l ++ padL l.length)).1
theorem outS_length (s : St) : (outS s).length = 32 := by simp [outS, wordB]
theorem shaL_length (l : List Int) : (shaL l).length = 32 := outS_length _
theorem wordB_bytes (x : W32) : ∀ c ∈ wordB x, 0 ≤ c ∧ c ≤ 255 := by
  intro c hc
  simp only [wordB, List.mem_cons, List.not_mem_nil, or_false] at hc
  rcases hc with rfl | rfl | rfl | rfl <;> omega
theorem outS_bytes (s : St) : ∀ c ∈ outS s, 0 ≤ c ∧ c ≤ 255 := by
  intro c hc
  simp only [outS, List.mem_append] at hc
  rcases hc with ((((((hc | hc) | hc) | hc) | hc) | hc) | hc) | hc <;> exact wordB_bytes _ c hc
theorem shaL_bytes (l : List Int) : ∀ c ∈ shaL l, 0 ≤ c ∧ c ≤ 255 := outS_bytes _

/-- a byte more among a block's words -/
theorem wordAt_more (p : List Int) (c : Int) (i : Nat) : wordAt (p ++ [c]) i = if i = p.length / 4 then wordAt p i ||| bW c <<< (24 - 8 * (p.length % 4)) else wordAt p i := by
  have hb0 : bW 0 = 0 := rfl
  have g : ∀ j, (p ++ [c]).getD j 0 = if j = p.length then c else p.getD j 0 := by
    intro j
    simp only [List.getD_eq_getElem?_getD]
    rcases Nat.lt_trichotomy j p.length with h | h | h
    · rw [List.getElem?_append_left h, if_neg (by omega)]
    · subst h; simp
    · rw [if_neg (by omega), List.getElem?_eq_none (by simp; omega), List.getElem?_eq_none (by omega)]
  have z : ∀ j, p.length ≤ j → p.getD j 0 = 0 := fun j h => by simp [List.getD_eq_getElem?_getD, List.getElem?_eq_none h]
  unfold wordAt
  rw [g, g, g, g]
  by_cases hi : i = p.length / 4
  · rw [if_pos hi]
    have hm : p.length % 4 = 0 ∨ p.length % 4 = 1 ∨ p.length % 4 = 2 ∨ p.length % 4 = 3 := by omega
    rcases hm with hm | hm | hm | hm
    · rw [if_pos (by omega), if_neg (by omega), if_neg (by omega), if_neg (by omega), z (4 * i) (by omega), z (4 * i + 1) (by omega), z (4 * i + 2) (by omega), z (4 * i + 3) (by omega), hm]
      simp [hb0]
    · rw [if_neg (by omega), if_pos (by omega), if_neg (by omega), if_neg (by omega), z (4 * i + 1) (by omega), z (4 * i + 2) (by omega), z (4 * i + 3) (by omega), hm]
      simp [hb0]
    · rw [if_neg (by omega), if_neg (by omega), if_pos (by omega), if_neg (by omega), z (4 * i + 2) (by omega), z (4 * i + 3) (by omega), hm]
      simp [hb0]
    · rw [if_neg (by omega), if_neg (by omega), if_neg (by omega), if_pos (by omega), z (4 * i + 3) (by omega), hm]
      simp [hb0]
  · rw [if_neg hi, if_neg (by omega), if_neg (by omega), if_neg (by omega), if_neg (by omega)]
theorem wordsOf_more (p : List Int) (c : Int) (h : p.length < 64) : wordsOf (p ++ [c]) = (wordsOf p).set (p.length / 4) ((wordsOf p).getD (p.length / 4) 0 ||| bW c <<< (24 - 8 * (p.length % 4))) := by
  apply List.ext_getElem?
  intro i
  rw [List.getElem?_set]
  by_cases hi : i < 16
  · have e : ∀ q, (wordsOf q)[i]? = some (wordAt q i) := fun q => by simp [wordsOf, hi]
    rw [e, wordAt_more, wordsOf_get _ (by omega)]
    by_cases h2 : i = p.length / 4
    · subst h2; simp [wordsOf_length]; omega
    · rw [if_neg h2, if_neg (by omega), e]
  · rw [List.getElem?_eq_none (by rw [wordsOf_length]; omega), if_neg (by omega), List.getElem?_eq_none (by rw [wordsOf_length]; omega)]
theorem wordsOf_nil : wordsOf [] = List.replicate 16 0 := by rfl
end Go.Aw
