/-
  Own work: parts of the proof: AwSh1 AwSh2 AwSh3 AwSh4 AwSh5.
-/
import Derived.Test.YtdababcblhbpeaaM2
import Derived.IntWalk
import Derived.Test.YtdababcblhbpeaaM10
import Derived.Test.YtdababcblhbpeaaM3
import Derived.Test.YtdababcblhbpeaaM9

section
/-
  AwSh1: words of 32 bits as numbers; the sum of bytes (FIPS 180-4) as plain functions. Own work.
-/
set_option linter.unusedVariables false
set_option linter.unusedSimpArgs false
namespace Go.Aw

abbrev W32 := BitVec 32
def wI (x : W32) : Int := (x.toNat : Int)
theorem wI_inj {x y : W32} (h : wI x = wI y) : x = y := by unfold wI at h; apply BitVec.eq_of_toNat_eq; omega
theorem ofInt_wI (x : W32) : BitVec.ofInt 32 (wI x) = x := by unfold wI; rw [BitVec.ofInt_natCast, BitVec.ofNat_toNat]; simp
theorem wrap_wI (n : Int) : IntKind.u32.wrap n = wI (BitVec.ofInt 32 n) := by
  unfold wI
  rw [BitVec.toNat_ofInt]
  have h1 : IntKind.u32.wrap n = n % 4294967296 := by simp [IntKind.wrap, IntKind.bits, IntKind.signed]
  rw [h1]
  have : (2:Nat) ^ 32 = 4294967296 := by decide
  rw [this]
  omega
theorem wrap_self (x : W32) : IntKind.u32.wrap (wI x) = wI x := by rw [wrap_wI, ofInt_wI]
theorem w_add (x y : W32) : IntKind.u32.wrap (wI x + wI y) = wI (x + y) := by
  rw [wrap_wI, BitVec.ofInt_add, ofInt_wI, ofInt_wI]
theorem w_xor (x y : W32) : xorI .u32 (wI x) (wI y) = wI (x ^^^ y) := by
  unfold xorI
  show IntKind.u32.wrap (((BitVec.ofInt 32 (wI x) ^^^ BitVec.ofInt 32 (wI y)).toNat : Nat) : Int) = _
  rw [ofInt_wI, ofInt_wI]; exact wrap_self _
theorem w_and (x y : W32) : andI .u32 (wI x) (wI y) = wI (x &&& y) := by
  unfold andI
  show IntKind.u32.wrap (((BitVec.ofInt 32 (wI x) &&& BitVec.ofInt 32 (wI y)).toNat : Nat) : Int) = _
  rw [ofInt_wI, ofInt_wI]; exact wrap_self _
theorem w_or (x y : W32) : orI .u32 (wI x) (wI y) = wI (x ||| y) := by
  unfold orI
  show IntKind.u32.wrap (((BitVec.ofInt 32 (wI x) ||| BitVec.ofInt 32 (wI y)).toNat : Nat) : Int) = _
  rw [ofInt_wI, ofInt_wI]; exact wrap_self _
theorem w_shl (x : W32) (n : Nat) (h : n ≤ 32) : shlI .u32 (wI x) (n : Int) = wI (x <<< n) := by
  unfold shlI
  have e : min (n : Int).toNat IntKind.u32.bits = n := by simp [IntKind.bits]; omega
  rw [e, wrap_wI]
  congr 1
  apply BitVec.eq_of_toNat_eq
  rw [BitVec.toNat_ofInt, BitVec.toNat_shiftLeft, Nat.shiftLeft_eq]
  unfold wI
  have : ((x.toNat : Int) * 2 ^ n) % ((2 ^ 32 : Nat) : Int) = (((x.toNat * 2 ^ n) % 2 ^ 32 : Nat) : Int) := by
    rw [Int.natCast_emod, Int.natCast_mul, Int.natCast_pow]; rfl
  rw [this, Int.toNat_natCast]
theorem w_shr (x : W32) (n : Nat) (h : n ≤ 32) : shrI .u32 (wI x) (n : Int) = wI (x >>> n) := by
  unfold shrI
  have e : min (n : Int).toNat IntKind.u32.bits = n := by simp [IntKind.bits]; omega
  rw [e, Int.fdiv_eq_ediv_of_nonneg _ (by exact Int.le_of_lt (Int.pow_pos (by omega)))]
  unfold wI
  rw [BitVec.toNat_ushiftRight, Nat.shiftRight_eq_div_pow, Int.natCast_ediv, Int.natCast_pow]; rfl

def rotr (x : W32) (k : Nat) : W32 := x >>> k ||| x <<< (32 - k)
def sg0 (x : W32) : W32 := rotr x 2 ^^^ rotr x 13 ^^^ rotr x 22
def sg1 (x : W32) : W32 := rotr x 6 ^^^ rotr x 11 ^^^ rotr x 25
def sm0 (x : W32) : W32 := rotr x 7 ^^^ rotr x 18 ^^^ x >>> 3
def sm1 (x : W32) : W32 := rotr x 17 ^^^ rotr x 19 ^^^ x >>> 10
def chW (e f g : W32) : W32 := g ^^^ (e &&& (f ^^^ g))
def mjW (a b c : W32) : W32 := (a &&& b) ||| (c &&& (a ||| b))

structure St where
  a : W32
  b : W32
  c : W32
  d : W32
  e : W32
  f : W32
  g : W32
  h : W32
  deriving DecidableEq, Inhabited
def St.l (s : St) : List Int := [wI s.a, wI s.b, wI s.c, wI s.d, wI s.e, wI s.f, wI s.g, wI s.h]
def rnd (s : St) (k w : W32) : St :=
  ⟨s.h + sg1 s.e + chW s.e s.f s.g + k + w + (sg0 s.a + mjW s.a s.b s.c), s.a, s.b, s.c, s.d + (s.h + sg1 s.e + chW s.e s.f s.g + k + w), s.e, s.f, s.g⟩
def kT : List Nat := [
  0x428A2F98, 0x71374491, 0xB5C0FBCF, 0xE9B5DBA5, 0x3956C25B, 0x59F111F1, 0x923F82A4, 0xAB1C5ED5,
  0xD807AA98, 0x12835B01, 0x243185BE, 0x550C7DC3, 0x72BE5D74, 0x80DEB1FE, 0x9BDC06A7, 0xC19BF174,
  0xE49B69C1, 0xEFBE4786, 0x0FC19DC6, 0x240CA1CC, 0x2DE92C6F, 0x4A7484AA, 0x5CB0A9DC, 0x76F988DA,
  0x983E5152, 0xA831C66D, 0xB00327C8, 0xBF597FC7, 0xC6E00BF3, 0xD5A79147, 0x06CA6351, 0x14292967,
  0x27B70A85, 0x2E1B2138, 0x4D2C6DFC, 0x53380D13, 0x650A7354, 0x766A0ABB, 0x81C2C92E, 0x92722C85,
  0xA2BFE8A1, 0xA81A664B, 0xC24B8B70, 0xC76C51A3, 0xD192E819, 0xD6990624, 0xF40E3585, 0x106AA070,
  0x19A4C116, 0x1E376C08, 0x2748774C, 0x34B0BCB5, 0x391C0CB3, 0x4ED8AA4A, 0x5B9CCA4F, 0x682E6FF3,
  0x748F82EE, 0x78A5636F, 0x84C87814, 0x8CC70208, 0x90BEFFFA, 0xA4506CEB, 0xBEF9A3F7, 0xC67178F2]
def kW (i : Nat) : W32 := BitVec.ofNat 32 (kT.getD i 0)
def nextW (l : List W32) (i : Nat) : W32 := l.getD (i - 16) 0 + sm0 (l.getD (i - 15) 0) + l.getD (i - 7) 0 + sm1 (l.getD (i - 2) 0)
/-- the schedule's first 16 + n words -/
def sch (m : List W32) : Nat → List W32
  | 0 => m
  | n + 1 => sch m n ++ [nextW (sch m n) (16 + n)]
theorem sch_length (m : List W32) : ∀ n, (sch m n).length = m.length + n
  | 0 => rfl
  | n + 1 => by simp [sch, sch_length m n]; omega
/-- a state behind so many rounds -/
def sts (s : St) (w : List W32) : Nat → St
  | 0 => s
  | i + 1 => rnd (sts s w i) (kW i) (w.getD i 0)
def St.add (s t : St) : St := ⟨s.a + t.a, s.b + t.b, s.c + t.c, s.d + t.d, s.e + t.e, s.f + t.f, s.g + t.g, s.h + t.h⟩
def compr (s : St) (m : List W32) : St := s.add (sts s (sch m 48) 64)

/-- a byte as a word -/
def bW (c : Int) : W32 := BitVec.ofInt 32 c
def wordAt (p : List Int) (i : Nat) : W32 :=
  bW (p.getD (4 * i) 0) <<< 24 ||| bW (p.getD (4 * i + 1) 0) <<< 16 ||| bW (p.getD (4 * i + 2) 0) <<< 8 ||| bW (p.getD (4 * i + 3) 0) <<< 0
def wordsOf (p : List Int) : List W32 := (List.range 16).map (wordAt p)
theorem wordsOf_length (p : List Int) : (wordsOf p).length = 16 := by simp [wordsOf]
theorem wordsOf_get (p : List Int) {i : Nat} (h : i < 16) : (wordsOf p).getD i 0 = wordAt p i := by
  simp [wordsOf, List.getD_eq_getElem?_getD, h]

def ivS : St := ⟨0x6A09E667, 0xBB67AE85, 0x3C6EF372, 0xA54FF53A, 0x510E527F, 0x9B05688C, 0x1F83D9AB, 0x5BE0CD19⟩
/-- one byte more -/
def takeB (x : St × List Int) (c : Int) : St × List Int :=
  if x.2.length = 63 then (compr x.1 (wordsOf (x.2 ++ [c])), []) else (x.1, x.2 ++ [c])
def takesB (x : St × List Int) (l : List Int) : St × List Int := l.foldl takeB x
theorem takesB_append (x : St × List Int) (a b : List Int) : takesB x (a ++ b) = takesB (takesB x a) b := by simp [takesB]
theorem takesB_cons (x : St × List Int) (c : Int) (b : List Int) : takesB x (c :: b) = takesB (takeB x c) b := rfl
theorem takeB_length {x : St × List Int} (c : Int) (h : x.2.length < 64) : (takeB x c).2.length = (x.2.length + 1) % 64 := by
  unfold takeB
  split
  · rename_i g; simp [g]
  · simp; omega
theorem takesB_length : ∀ (l : List Int) {x : St × List Int}, x.2.length < 64 → (takesB x l).2.length = (x.2.length + l.length) % 64
  | [], x, h => by simp [takesB]; omega
  | c :: l, x, h => by
    rw [takesB_cons, takesB_length l (by rw [takeB_length c h]; omega), takeB_length c h]
    simp; omega

/-- a number's eight bytes, the highest first -/
def be8 (n : Int) : List Int := [n / 72057594037927936 % 256, n / 281474976710656 % 256, n / 1099511627776 % 256, n / 4294967296 % 256, n / 16777216 % 256, n / 65536 % 256, n / 256 % 256, n % 256]
def padL (n : Nat) : List Int := 128 :: (List.replicate ((119 - n % 64) % 64) 0 ++ be8 (8 * (n : Int)))
def wordB (x : W32) : List Int := [wI (x >>> 24) % 256, wI (x >>> 16) % 256, wI (x >>> 8) % 256, wI x % 256]
def outS (s : St) : List Int := wordB s.a ++ wordB s.b ++ wordB s.c ++ wordB s.d ++ wordB s.e ++ wordB s.f ++ wordB s.g ++ wordB s.h
/-- the sum of bytes -/
def shaL (l : List Int) : List Int := outS (takesB (ivS, []) (l ++ padL l.length)).1
theorem outS_length (s : St) : (outS s).length = 32 := by simp [outS, wordB]
theorem shaL_length (l : List Int) : (shaL l).length = 32 := outS_length _
theorem wordB_bytes (x : W32) : ∀ c ∈ wordB x, 0 ≤ c ∧ c ≤ 255 := by
  intro c hc
  simp only [wordB, List.mem_cons, List.not_mem_nil, or_false] at hc
  rcases hc with rfl | rfl | rfl | rfl <;> omega
/-- a byte more among a block's words -/
theorem wordAt_more (p : List Int) (c : Int) (i : Nat) : wordAt (p ++ [c]) i = if i = p.length / 4 then wordAt p i ||| bW c <<< (24 - 8 * (p.length % 4)) else wordAt p i := by
  have hb0 : bW 0 = 0 := rfl
  have g : ∀ j, (p ++ [c]).getD j 0 = if j = p.length then c else p.getD j 0 := by
    intro j
    simp only [List.getD_eq_getElem?_getD]
    rcases Nat.lt_trichotomy j p.length with h | h | h
    · rw [List.getElem?_append_left h, if_neg (by omega)]
    · subst h; simp
    · rw [if_neg (by omega), List.getElem?_eq_none (by simp; omega), List.getElem?_eq_none (by omega)]
  have z : ∀ j, p.length ≤ j → p.getD j 0 = 0 := fun j h => by simp [List.getD_eq_getElem?_getD, List.getElem?_eq_none h]
  unfold wordAt
  rw [g, g, g, g]
  by_cases hi : i = p.length / 4
  · rw [if_pos hi]
    have hm : p.length % 4 = 0 ∨ p.length % 4 = 1 ∨ p.length % 4 = 2 ∨ p.length % 4 = 3 := by omega
    rcases hm with hm | hm | hm | hm
    · rw [if_pos (by omega), if_neg (by omega), if_neg (by omega), if_neg (by omega), z (4 * i) (by omega), z (4 * i + 1) (by omega), z (4 * i + 2) (by omega), z (4 * i + 3) (by omega), hm]
      simp [hb0]
    · rw [if_neg (by omega), if_pos (by omega), if_neg (by omega), if_neg (by omega), z (4 * i + 1) (by omega), z (4 * i + 2) (by omega), z (4 * i + 3) (by omega), hm]
      simp [hb0]
    · rw [if_neg (by omega), if_neg (by omega), if_pos (by omega), if_neg (by omega), z (4 * i + 2) (by omega), z (4 * i + 3) (by omega), hm]
      simp [hb0]
    · rw [if_neg (by omega), if_neg (by omega), if_neg (by omega), if_pos (by omega), z (4 * i + 3) (by omega), hm]
      simp [hb0]
  · rw [if_neg hi, if_neg (by omega), if_neg (by omega), if_neg (by omega), if_neg (by omega)]
theorem wordsOf_more (p : List Int) (c : Int) (h : p.length < 64) : wordsOf (p ++ [c]) = (wordsOf p).set (p.length / 4) ((wordsOf p).getD (p.length / 4) 0 ||| bW c <<< (24 - 8 * (p.length % 4))) := by
  apply List.ext_getElem?
  intro i
  rw [List.getElem?_set]
  by_cases hi : i < 16
  · have e : ∀ q, (wordsOf q)[i]? = some (wordAt q i) := fun q => by simp [wordsOf, hi]
    rw [e, wordAt_more, wordsOf_get _ (by omega)]
    by_cases h2 : i = p.length / 4
    · subst h2; simp [wordsOf_length]; omega
    · rw [if_neg h2, if_neg (by omega), e]
  · rw [List.getElem?_eq_none (by rw [wordsOf_length]; omega), if_neg (by omega), List.getElem?_eq_none (by rw [wordsOf_length]; omega)]
theorem wordsOf_nil : wordsOf [] = List.replicate 16 0 := by rfl
end Go.Aw
end

section
/-
  AwSh2: sha's words: rotations, three, the roots. Own work.
-/
set_option linter.unusedVariables false
set_option linter.unusedSimpArgs false
set_option maxRecDepth 20000
open Go.Proofs
namespace Go.Aw

theorem rot_amount : ∀ k : Fin 32, andI .u64 (IntKind.u64.wrap (-((k.val : Nat) : Int))) 31 = (((32 - k.val) % 32 : Nat) : Int) := by decide

theorem rot_ok (x : W32) (k : Nat) (h1 : 1 ≤ k) (h2 : k ≤ 31) : AC Try.prog 127 [.int .u32 (wI x), .int .i64 (-(k : Int))] [] (fun r hp' => r = .int .u32 (wI (rotr x k)) ∧ hp' = []) := by
  refine AC.left (AC.body tokT Try.func127 rfl rfl rfl (by decide) (by rfl) ?_)
  have ha := rot_amount ⟨k, by omega⟩
  simp only at ha
  rw [Nat.mod_eq_of_lt (by omega)] at ha
  refine ev_sound tokT (keep := fun _ => true) ?_
  ((conv => whnf); (repeat (((refine And.intro (by first | omega | ((repeat (first | rw [IntWalk.i64_in _ (by omega)] | rw [IntWalk.u8_in _ (by omega)] | rw [IntWalk.u32_in _ (by omega)] | rw [IntWalk.u64_in _ (by omega)])); omega)) ?_); (conv => whnf)))))
  rw [ha]
  (conv => whnf)
  have e : IntKind.u64.wrap (32 - ((32 - k : Nat) : Int)) = (k : Int) := by rw [IntWalk.u64_in _ (by omega)]; omega
  rw [e]
  (conv => whnf)
  rw [w_shl _ _ (by omega), w_shr _ _ (by omega), w_or]
  rw [show x <<< (32 - k) ||| x >>> k = rotr x k from BitVec.or_comm _ _]
  (refine Left.of [] (.int .u32 (wI (rotr x k))) [] (by rfl) (by rfl) (by rfl) (by (repeat' (exact True.intro))) (by rfl) (by (repeat' (exact True.intro))) ?_)
  exact ⟨rfl, rfl⟩

def threeW (x : W32) (a b c : Nat) (s : Bool) : W32 := rotr x a ^^^ rotr x b ^^^ (if s then x >>> c else rotr x c)
theorem three_ok (x : W32) (a b c : Nat) (s : Bool) (ha : 1 ≤ a) (ha' : a ≤ 31) (hb : 1 ≤ b) (hb' : b ≤ 31) (hc : 1 ≤ c) (hc' : c ≤ 31) :
    AC Try.prog 122 [.int .u32 (wI x), .int .i64 a, .int .i64 b, .int .i64 c, .bool s] [] (fun r hp' => r = .int .u32 (wI (threeW x a b c s)) ∧ hp' = []) := by
  refine AC.left (AC.body tokT Try.func122 rfl rfl rfl (by decide) (by rfl) ?_)
  have en : ∀ k : Nat, k ≤ 31 → IntKind.i64.wrap (0 - (k : Int)) = -(k : Int) := fun k hk => by rw [IntWalk.i64_in _ (by omega)]; omega
  refine AW.pre tokT (fun _ => true) ?_; (conv => whnf)
  refine AW.pre tokT (fun _ => true) ?_; (conv => whnf)
  rw [en c hc']
  refine AC.pure (rot_ok x c hc hc') (by (repeat' (first | exact True.intro | refine And.intro ?_ ?_))) (by (repeat' (exact True.intro))) ?_
  (conv => whnf)
  refine AW.cutT (fun fr hp => fr = [(0, .int .u32 (wI x)), (1, .int .i64 a), (2, .int .i64 b), (11, .int .u32 (wI (if s then x >>> c else rotr x c)))] ∧ hp = []) ?_ ?_
  · refine ev_sound tokT (keep := fun _ => true) ?_
    cases s with
    | true =>
      ((conv => whnf); (repeat (((refine And.intro (by omega) ?_); (conv => whnf)))))
      rw [w_shr _ _ (by omega)]
      (refine Turned.of [] [(0, .int .u32 (wI x)), (1, .int .i64 a), (2, .int .i64 b), (11, .int .u32 (wI (x >>> c)))] [] (by rfl) (by rfl) (by rfl) (by (repeat' (first | exact True.intro | exact rfl | refine And.intro ?_ ?_))) (by (repeat' (first | exact True.intro | exact rfl | refine And.intro ?_ ?_))) ?_)
      exact ⟨rfl, rfl⟩
    | false =>
      (conv => whnf)
      (refine Turned.of [] [(0, .int .u32 (wI x)), (1, .int .i64 a), (2, .int .i64 b), (11, .int .u32 (wI (rotr x c)))] [] (by rfl) (by rfl) (by rfl) (by (repeat' (first | exact True.intro | exact rfl | refine And.intro ?_ ?_))) (by (repeat' (first | exact True.intro | exact rfl | refine And.intro ?_ ?_))) ?_)
      exact ⟨rfl, rfl⟩
  · rintro fr hp ⟨rfl, rfl⟩
    refine ev_sound tokT (keep := fun _ => true) ?_
    (conv => whnf)
    rw [en a ha']
    refine AC.pure (rot_ok x a ha ha') (by (repeat' (first | exact True.intro | refine And.intro ?_ ?_))) (by (repeat' (exact True.intro))) ?_
    (conv => whnf)
    rw [en b hb']
    refine AC.pure (rot_ok x b hb hb') (by (repeat' (first | exact True.intro | refine And.intro ?_ ?_))) (by (repeat' (exact True.intro))) ?_
    (conv => whnf)
    rw [w_xor, w_xor]
    (refine Left.of [] (.int .u32 (wI (threeW x a b c s))) [] (by rfl) (by rfl) (by rfl) (by (repeat' (exact True.intro))) (by rfl) (by (repeat' (exact True.intro))) ?_)
    exact ⟨rfl, rfl⟩

theorem roots_ok : AC Try.prog 121 [] [] (fun r hp' => r = .agg [.ints .u32 64 (kT.map Int.ofNat)] ∧ hp' = []) := by
  refine AC.left (AC.body tokT Try.func121 rfl rfl rfl (by decide) (by rfl) ?_)
  refine ev_sound tokT (keep := fun _ => true) ?_
  (conv => whnf)
  (refine Left.of [] (.agg [.ints .u32 64 (kT.map Int.ofNat)]) [] (by rfl) (by rfl) (by rfl) (by (repeat' (first | exact True.intro | refine And.intro ?_ ?_))) (by rfl) (by (repeat' (first | exact True.intro | refine And.intro ?_ ?_))) ?_)
  exact ⟨rfl, rfl⟩
end Go.Aw
end

section
/-
  AwSh3: sha's stir: all rounds of a block. Own work.
-/
set_option linter.unusedVariables false
set_option linter.unusedSimpArgs false
set_option maxRecDepth 20000
open Go.Proofs
namespace Go.Aw
attribute [local irreducible] andI orI xorI shlI shrI

theorem mixed_ok' : Try.prog.follows .mixedOrders = true := by kernel_rfl

theorem sch_prefix (m : List W32) (n k j : Nat) (h : j < m.length + n) : (sch m (n + k)).getD j 0 = (sch m n).getD j 0 := by
  induction k with
  | zero => rfl
  | succ k ih =>
    rw [← ih, ← Nat.add_assoc]
    simp only [sch, List.getD_eq_getElem?_getD]
    rw [List.getElem?_append_left (by rw [sch_length]; omega)]
/-- the words as they stand ahead of round i -/
def wsI (m : List W32) (i : Nat) : List Int := (sch m (i - 16)).map wI ++ List.replicate (48 - (i - 16)) 0
theorem wsI_length (m : List W32) (hm : m.length = 16) (i : Nat) (hi : i ≤ 64) : (wsI m i).length = 64 := by
  simp [wsI, sch_length, hm]; omega
theorem wsI_get (m : List W32) (hm : m.length = 16) {i j : Nat} (hi : i ≤ 64) (h : j < i ∨ j < 16) : (wsI m i).getD j 0 = wI ((sch m 48).getD j 0) := by
  have hj : j < 16 + (i - 16) := by omega
  unfold wsI
  rw [List.getD_eq_getElem?_getD, List.getElem?_append_left (by simp [sch_length, hm]; omega), List.getElem?_map]
  have := sch_prefix m (i - 16) (48 - (i - 16)) j (by omega)
  rw [show i - 16 + (48 - (i - 16)) = 48 by omega] at this
  rw [this, List.getD_eq_getElem?_getD, List.getElem?_eq_getElem (by rw [sch_length]; omega)]
  rfl
theorem wsI_set (m : List W32) (hm : m.length = 16) {i : Nat} (h0 : 16 ≤ i) (h1 : i < 64) : (wsI m i).set i (wI (nextW (sch m 48) i)) = wsI m (i + 1) := by
  have e1 : nextW (sch m 48) i = nextW (sch m (i - 16)) i := by
    have g : ∀ j, j < i → (sch m 48).getD j 0 = (sch m (i - 16)).getD j 0 := by
      intro j hj
      have := sch_prefix m (i - 16) (48 - (i - 16)) j (by omega)
      rwa [show i - 16 + (48 - (i - 16)) = 48 by omega] at this
    unfold nextW
    rw [g _ (by omega), g _ (by omega), g _ (by omega), g _ (by omega)]
  rw [e1]
  unfold wsI
  rw [show i + 1 - 16 = (i - 16) + 1 by omega]
  simp only [sch, List.map_append, List.map_cons, List.map_nil]
  rw [List.set_append_right _ _ (by simp [sch_length, hm]; omega)]
  rw [show 16 + (i - 16) = i by omega, List.append_assoc]
  congr 1
  have : i - (List.map wI (sch m (i - 16))).length = 0 := by simp [sch_length, hm]; omega
  rw [this, show 48 - (i - 16) = (48 - (i - 16 + 1)) + 1 by omega, List.replicate_succ]
  rfl
theorem kT_get (i : Nat) : (kT.map Int.ofNat).getD i 0 = wI (kW i) := by
  have hlt : ∀ x ∈ kT, x < 4294967296 := by decide
  unfold kW wI
  rw [List.getD_eq_getElem?_getD, List.getElem?_map, BitVec.toNat_ofNat, List.getD_eq_getElem?_getD]
  rcases Nat.lt_or_ge i kT.length with h | h
  · rw [List.getElem?_eq_getElem h]
    simp only [Option.map_some, Option.getD_some]
    rw [Nat.mod_eq_of_lt (hlt _ (List.getElem_mem _))]; rfl
  · rw [List.getElem?_eq_none h]; rfl
theorem sch_next (m : List W32) (hm : m.length = 16) (i : Nat) (h0 : 16 ≤ i) (h1 : i < 64) : (sch m 48).getD i 0 = nextW (sch m 48) i := by
  have h := wsI_get m hm (i := i + 1) (j := i) (by omega) (by omega)
  rw [← wsI_set m hm h0 h1] at h
  rw [List.getD_eq_getElem?_getD, List.getElem?_set_self (by rw [wsI_length m hm i (by omega)]; omega)] at h
  exact (wI_inj h).symm

def roundF (t : St) (i : Int) : Fr := [(0, .ptr 0 0 0 0), (2, .ptr 1 0 0 0), (3, .int .u32 (wI t.a)), (4, .int .u32 (wI t.b)), (5, .int .u32 (wI t.c)), (6, .int .u32 (wI t.d)), (7, .int .u32 (wI t.e)), (8, .int .u32 (wI t.f)), (9, .int .u32 (wI t.g)), (10, .int .u32 (wI t.h)), (11, .int .i64 i)]

/-- the state, some of its words added to -/
def hsI (s e : St) (i : Nat) : List Int := (s.add e).l.take i ++ s.l.drop i
theorem hsI_get (s e : St) {i : Nat} (h : i < 8) : (hsI s e i).getD i 0 = s.l.getD i 0 := by
  unfold hsI
  rw [List.getD_eq_getElem?_getD, List.getElem?_append_right (by simp [St.l]; omega)]
  have : i - ((s.add e).l.take i).length = 0 := by simp [St.l]; omega
  rw [this, List.getElem?_drop, List.getD_eq_getElem?_getD]; rfl
theorem hsI_set (s e : St) {i : Nat} (h : i < 8) : (hsI s e i).set i (IntKind.u32.wrap (s.l.getD i 0 + e.l.getD i 0)) = hsI s e (i + 1) := by
  have : i = 0 ∨ i = 1 ∨ i = 2 ∨ i = 3 ∨ i = 4 ∨ i = 5 ∨ i = 6 ∨ i = 7 := by omega
  rcases this with rfl | rfl | rfl | rfl | rfl | rfl | rfl | rfl <;> simp [hsI, St.l, St.add, w_add]

set_option maxHeartbeats 1000000 in
theorem stir_ok (s : St) (m : List W32) (hm : m.length = 16) (h n : Int) :
    AC Try.prog 108 [.ptr 0 0 0 0] [⟨74, false, none, .var [.ints .u32 8 s.l, .ints .u32 64 (wsI m 0), .int .i64 h, .int .u64 n]⟩]
      (fun r hp' => r = .tup [] ∧ hp' = [⟨74, false, none, .var [.ints .u32 8 (compr s m).l, .ints .u32 64 (List.replicate 64 0), .int .i64 0, .int .u64 n]⟩]) := by
  refine AC.left (AC.body tokT Try.func108 rfl rfl rfl (by decide) (by rfl) ?_)
  refine AW.scopeBack 0 (by rfl) (fun q fr hp => ∃ i, q = 64 - i ∧ i < 64 ∧ fr = roundF (sts s (sch m 48) i) i ∧
    hp = [⟨74, false, none, .var [.ints .u32 8 s.l, .ints .u32 64 (wsI m i), .int .i64 h, .int .u64 n]⟩, ⟨64, false, none, .var [.ints .u32 64 (kT.map Int.ofNat)]⟩]) ?_ ?_
  · rintro q fr hp ⟨i, rfl, hi, rfl, rfl⟩
    refine AW.postG ?_
    have hws := wsI_length m hm i (by omega)
    refine AW.cutT (fun fr hp => fr = roundF (sts s (sch m 48) i) i ∧
      hp = [⟨74, false, none, .var [.ints .u32 8 s.l, .ints .u32 64 (wsI m (i + 1)), .int .i64 h, .int .u64 n]⟩, ⟨64, false, none, .var [.ints .u32 64 (kT.map Int.ofNat)]⟩]) ?_ ?_
    · have ix : ∀ q : Nat, q ≤ 16 → 16 ≤ i → (IntKind.i64.wrap ((i : Int) - (q : Int))).toNat = i - q := fun q h1 h2 => by rw [IntWalk.i64_in _ (by omega)]; omega
      refine AW.pre tokT (fun _ => true) ?_; (conv => whnf)
      refine ev_sound tokT (keep := fun _ => true) ?_
      (conv => whnf); (cases h16 : (decide ((↑i : Int) ≥ 16) : Bool) <;> (try simp only [beq_iff_eq, beq_eq_false_iff_ne, ne_eq, decide_eq_true_eq, decide_eq_false_iff_not, bne_iff_ne, bne_eq_false_iff_eq, Bool.not_eq_true, Bool.not_eq_false, gt_iff_lt, ge_iff_le] at h16) <;> (try (exfalso; omega)))
      case' false =>
        (conv => whnf)
        rw [show wsI m (i + 1) = wsI m i by unfold wsI; rw [show i + 1 - 16 = i - 16 by omega]]
        (refine Turned.of [0, 1] (roundF (sts s (sch m 48) i) i) [⟨74, false, none, .var [.ints .u32 8 s.l, .ints .u32 64 (wsI m i), .int .i64 h, .int .u64 n]⟩, ⟨64, false, none, .var [.ints .u32 64 (kT.map Int.ofNat)]⟩] (by rfl) (by rfl) (by rfl) (by (repeat' (first | exact True.intro | exact rfl | refine And.intro ?_ ?_ | (simp [AV.ren, AV.rens, AObj.ren, Ent.ren, AV.inn, AV.inns, AObj.inn, *]; done)))) (by (repeat' (first | exact True.intro | exact rfl | refine And.intro ?_ ?_ | (simp [AV.ren, AV.rens, AObj.ren, Ent.ren, AV.inn, AV.inns, AObj.inn, *]; done)))) ?_)
        exact ⟨rfl, rfl⟩
      (conv => whnf)
      have e15 : (IntKind.i64.wrap ((i : Int) - 15)).toNat = i - 15 := ix 15 (by omega) (by omega)
      have e2 : (IntKind.i64.wrap ((i : Int) - 2)).toNat = i - 2 := ix 2 (by omega) (by omega)
      have e16 : (IntKind.i64.wrap ((i : Int) - 16)).toNat = i - 16 := ix 16 (by omega) (by omega)
      have e7 : (IntKind.i64.wrap ((i : Int) - 7)).toNat = i - 7 := ix 7 (by omega) (by omega)
      have g15 := wsI_get m hm (i := i) (j := i - 15) (by omega) (by omega)
      have g2 := wsI_get m hm (i := i) (j := i - 2) (by omega) (by omega)
      have g16 := wsI_get m hm (i := i) (j := i - 16) (by omega) (by omega)
      have g7 := wsI_get m hm (i := i) (j := i - 7) (by omega) (by omega)
      refine AW.draw [(false, 0), (false, 1), (false, 2), (false, 3), (false, 4), (false, 5), (false, 6), (false, 7), (false, 8), (false, 9), (false, 10), (false, 11), (false, 12), (false, 13), (false, 14), (false, 15), (false, 18), (false, 19), (false, 20), (false, 21), (false, 22), (false, 23), (false, 24), (false, 26), (false, 27), (false, 28), (false, 29), (false, 30), (false, 31), (false, 32), (false, 35), (false, 36), (true, 16), (false, 17), (false, 25), (true, 33), (false, 34), (false, 37), (true, 38)] (keep := fun _ => true) mixed_ok' tokT (by kernel_rfl) (by kernel_rfl) ?_
      ((conv => whnf); (repeat (((refine Exists.intro _ (And.intro (by ((conv => whnf); (repeat ((refine And.intro (by first | exact rfl | omega | ((repeat (first | rw [IntWalk.i64_in _ (by omega)] | rw [IntWalk.u8_in _ (by omega)] | rw [IntWalk.u32_in _ (by omega)] | rw [IntWalk.u64_in _ (by omega)])); omega)) ?_); (conv => whnf))))) ?_)); (conv => whnf)))))
      refine AC.frame (three_ok ((sch m 48).getD (i - 15) 0) 7 18 3 true (by omega) (by omega) (by omega) (by omega) (by omega) (by omega)) [] (by (repeat' (exact True.intro))) (by rfl) (by (repeat' (first | exact True.intro | refine And.intro ?_ ?_))) (by rw [e15, g15]; rfl) ?_
      rintro r0 hp0 ⟨rfl, rfl⟩
      ((conv => whnf); (repeat (first | ((with_reducible (refine And.intro (show Go.Aw.againsK _ _ _ _ _ from ?_) ?_)); (focus (repeat' (first | ((with_reducible (show Go.Aw.againsK _ _ _ _ _)); (conv => whnf)) | ((with_reducible (show Go.Aw.againK _ _ _ _ _)); (conv => whnf)) | (with_reducible (exact True.intro)) | (with_reducible (refine And.intro ?_ ?_)) | exact rfl | omega | ((repeat (first | rw [IntWalk.i64_in _ (by omega)] | rw [IntWalk.u8_in _ (by omega)] | rw [IntWalk.u32_in _ (by omega)] | rw [IntWalk.u64_in _ (by omega)])); omega)))); (conv => whnf)) | ((refine And.intro (by exact rfl) ?_); (conv => whnf)) | ((refine Exists.intro _ (And.intro (by ((conv => whnf); (repeat ((refine And.intro (by exact rfl) ?_); (conv => whnf))))) ?_)); (conv => whnf)))))
      refine AC.frame (three_ok ((sch m 48).getD (i - 2) 0) 17 19 10 true (by omega) (by omega) (by omega) (by omega) (by omega) (by omega)) [] (by (repeat' (exact True.intro))) (by rfl) (by (repeat' (first | exact True.intro | refine And.intro ?_ ?_))) (by rw [e2, g2]; rfl) ?_
      rintro r0 hp0 ⟨rfl, rfl⟩
      ((conv => whnf); (repeat (first | ((with_reducible (refine And.intro (show Go.Aw.againsK _ _ _ _ _ from ?_) ?_)); (focus (repeat' (first | ((with_reducible (show Go.Aw.againsK _ _ _ _ _)); (conv => whnf)) | ((with_reducible (show Go.Aw.againK _ _ _ _ _)); (conv => whnf)) | (with_reducible (exact True.intro)) | (with_reducible (refine And.intro ?_ ?_)) | exact rfl | omega | ((repeat (first | rw [IntWalk.i64_in _ (by omega)] | rw [IntWalk.u8_in _ (by omega)] | rw [IntWalk.u32_in _ (by omega)] | rw [IntWalk.u64_in _ (by omega)])); omega)))); (conv => whnf)) | ((refine And.intro (by first | exact rfl | assumption) ?_); (conv => whnf)) | ((refine Exists.intro _ (And.intro (by ((conv => whnf); (repeat ((refine And.intro (by first | exact rfl | omega) ?_); (conv => whnf))))) ?_)); (conv => whnf)))))
      rw [e16, g16, e7, g7]
      rw [w_add, w_add, w_add, show (i : Int).toNat = i by simp]
      rw [show (sch m 48).getD (i - 16) 0 + threeW ((sch m 48).getD (i - 15) 0) 7 18 3 true + (sch m 48).getD (i - 7) 0 + threeW ((sch m 48).getD (i - 2) 0) 17 19 10 true = nextW (sch m 48) i from rfl]
      rw [wsI_set m hm (by omega) hi]
      (refine Turned.of [0, 1] (roundF (sts s (sch m 48) i) i) [⟨74, false, none, .var [.ints .u32 8 s.l, .ints .u32 64 (wsI m (i + 1)), .int .i64 h, .int .u64 n]⟩, ⟨64, false, none, .var [.ints .u32 64 (kT.map Int.ofNat)]⟩] (by rfl) (by rfl) (by rfl) (by (repeat' (first | exact True.intro | exact rfl | refine And.intro ?_ ?_ | (simp [AV.ren, AV.rens, AObj.ren, Ent.ren, AV.inn, AV.inns, AObj.inn, *]; done)))) (by (repeat' (first | exact True.intro | exact rfl | refine And.intro ?_ ?_ | (simp [AV.ren, AV.rens, AObj.ren, Ent.ren, AV.inn, AV.inns, AObj.inn, *]; done)))) ?_)
      exact ⟨rfl, rfl⟩
    · rintro fr hp ⟨rfl, rfl⟩
      obtain ⟨t, ht⟩ : ∃ t, sts s (sch m 48) i = t := ⟨_, rfl⟩
      rw [ht]
      refine AW.seq (AW.draw [(false, 0), (false, 1), (false, 4), (false, 5), (false, 6), (false, 7), (false, 8), (false, 9), (false, 10), (false, 12), (false, 13), (false, 14), (false, 16), (false, 17), (false, 18), (false, 19), (false, 20), (false, 21), (true, 2), (false, 3), (false, 11), (false, 15), (false, 22), (false, 23)] (keep := fun _ => true) mixed_ok' tokT (by kernel_rfl) (by kernel_rfl) ?_)
      ((conv => whnf); (repeat (((refine Exists.intro _ (And.intro (by ((conv => whnf); (repeat ((refine And.intro (by first | exact rfl | assumption | omega) ?_); (conv => whnf))))) ?_)); (conv => whnf)))))
      refine AC.frame (three_ok _ 6 11 25 false (by omega) (by omega) (by omega) (by omega) (by omega) (by omega)) [] (by (repeat' (exact True.intro))) (by rfl) (by (repeat' (first | exact True.intro | refine And.intro ?_ ?_))) (by rfl) ?_
      rintro r0 hp0 ⟨rfl, rfl⟩
      have gk := kT_get i
      have gw := wsI_get m hm (i := i + 1) (j := i) (by omega) (by omega)
      ((conv => whnf); (repeat (first | ((with_reducible (refine And.intro (show Go.Aw.againsK _ _ _ _ _ from ?_) ?_)); (focus (repeat' (first | ((with_reducible (show Go.Aw.againsK _ _ _ _ _)); (conv => whnf)) | ((with_reducible (show Go.Aw.againK _ _ _ _ _)); (conv => whnf)) | (with_reducible (exact True.intro)) | (with_reducible (refine And.intro ?_ ?_)) | exact rfl | assumption | omega))); (conv => whnf)) | ((refine And.intro (by exact rfl) ?_); (conv => whnf)) | ((refine Exists.intro _ (And.intro (by ((conv => whnf); (repeat ((refine And.intro (by exact rfl) ?_); (conv => whnf))))) ?_)); (conv => whnf)))))
      rw [show (i : Int).toNat = i by simp, gk, gw, w_xor, w_and, w_xor, w_add, w_add, w_add, w_add]
      obtain ⟨U, hU⟩ : ∃ U, t.h + threeW t.e 6 11 25 false + (t.g ^^^ t.e &&& (t.f ^^^ t.g)) + kW i + (sch m 48).getD i 0 = U := ⟨_, rfl⟩
      rw [hU]
      (conv => whnf)
      (refine AW.turnL [0, 1] (roundF t i ++ [(12, .int .u32 (wI U))]) [⟨74, false, none, .var [.ints .u32 8 s.l, .ints .u32 64 (wsI m (i + 1)), .int .i64 h, .int .u64 n]⟩, ⟨64, false, none, .var [.ints .u32 64 (kT.map Int.ofNat)]⟩] (by rfl) (by rfl) (by rfl) (by (repeat' (first | exact True.intro | exact rfl | refine And.intro ?_ ?_ | (simp [AV.ren, AV.rens, AObj.ren, Ent.ren, AV.inn, AV.inns, AObj.inn, *]; done)))) (by (repeat' (first | exact True.intro | exact rfl | refine And.intro ?_ ?_ | (simp [AV.ren, AV.rens, AObj.ren, Ent.ren, AV.inn, AV.inns, AObj.inn, *]; done)))) ?_)
      refine AW.pre tokT (fun _ => true) ?_; (conv => whnf)
      refine AC.frame (three_ok _ 2 13 22 false (by omega) (by omega) (by omega) (by omega) (by omega) (by omega)) [] (by (repeat' (exact True.intro))) (by rfl) (by (repeat' (first | exact True.intro | refine And.intro ?_ ?_))) (by rfl) ?_
      rintro r0 hp0 ⟨rfl, rfl⟩
      (conv => whnf)
      rw [w_and, w_or, w_and, w_or, w_add]
      obtain ⟨D, hD⟩ : ∃ D, threeW t.a 2 13 22 false + (t.a &&& t.b ||| t.c &&& (t.a ||| t.b)) = D := ⟨_, rfl⟩
      rw [hD]
      (conv => whnf)
      refine AW.pre tokT (fun _ => true) ?_; (conv => whnf)
      rw [w_add, w_add]
      have hst : sts s (sch m 48) (i + 1) = ⟨U + D, t.a, t.b, t.c, t.d + U, t.e, t.f, t.g⟩ := by
        simp only [sts, ht, rnd]
        rw [← hU, ← hD]; rfl
      (refine AW.turnL [0, 1] (roundF ⟨U + D, t.a, t.b, t.c, t.d + U, t.e, t.f, t.g⟩ i) [⟨74, false, none, .var [.ints .u32 8 s.l, .ints .u32 64 (wsI m (i + 1)), .int .i64 h, .int .u64 n]⟩, ⟨64, false, none, .var [.ints .u32 64 (kT.map Int.ofNat)]⟩] (by rfl) (by rfl) (by rfl) (by (repeat' (first | exact True.intro | exact rfl | refine And.intro ?_ ?_ | (simp [AV.ren, AV.rens, AObj.ren, Ent.ren, AV.inn, AV.inns, AObj.inn, *]; done)))) (by (repeat' (first | exact True.intro | exact rfl | refine And.intro ?_ ?_ | (simp [AV.ren, AV.rens, AObj.ren, Ent.ren, AV.inn, AV.inns, AObj.inn, *]; done)))) ?_)
      rw [← hst]
      refine AW.pre tokT (fun _ => true) ?_; (conv => whnf)
      rw [IntWalk.i64_in _ (by omega)]
      (cases hlt : (decide ((↑i : Int) + 1 < 64) : Bool) <;> (try simp only [beq_iff_eq, beq_eq_false_iff_ne, ne_eq, decide_eq_true_eq, decide_eq_false_iff_not, bne_iff_ne, bne_eq_false_iff_eq, Bool.not_eq_true, Bool.not_eq_false, gt_iff_lt, ge_iff_le] at hlt) <;> (try (exfalso; omega)))
      case' true =>
        (conv => whnf)
        (refine Turned.of [0, 1] (roundF (sts s (sch m 48) (i + 1)) ((i + 1 : Nat) : Int)) [⟨74, false, none, .var [.ints .u32 8 s.l, .ints .u32 64 (wsI m (i + 1)), .int .i64 h, .int .u64 n]⟩, ⟨64, false, none, .var [.ints .u32 64 (kT.map Int.ofNat)]⟩] (by rfl) (by rfl) (by rfl) (by (repeat' (first | exact True.intro | exact rfl | refine And.intro ?_ ?_ | (simp [AV.ren, AV.rens, AObj.ren, Ent.ren, AV.inn, AV.inns, AObj.inn, *]; done)))) (by (repeat' (first | exact True.intro | exact rfl | refine And.intro ?_ ?_ | (simp [AV.ren, AV.rens, AObj.ren, Ent.ren, AV.inn, AV.inns, AObj.inn, *]; done)))) ?_)
        exact ⟨64 - (i + 1), by omega, i + 1, rfl, by omega, rfl, rfl⟩
      (conv => whnf)
      have hi64 : i + 1 = 64 := by omega
      rw [hi64]
      obtain ⟨e, he⟩ : ∃ e, sts s (sch m 48) 64 = e := ⟨_, rfl⟩
      rw [he]
      (refine AW.turnL [0] [(0, .ptr 0 0 0 0), (3, .int .u32 (wI e.a)), (4, .int .u32 (wI e.b)), (5, .int .u32 (wI e.c)), (6, .int .u32 (wI e.d)), (7, .int .u32 (wI e.e)), (8, .int .u32 (wI e.f)), (9, .int .u32 (wI e.g)), (10, .int .u32 (wI e.h))] [⟨74, false, none, .var [.ints .u32 8 s.l, .ints .u32 64 (wsI m 64), .int .i64 h, .int .u64 n]⟩] (by rfl) (by rfl) (by rfl) (by (repeat' (first | exact True.intro | exact rfl | refine And.intro ?_ ?_ | (simp [AV.ren, AV.rens, AObj.ren, Ent.ren, AV.inn, AV.inns, AObj.inn, *]; done)))) (by (repeat' (first | exact True.intro | exact rfl | refine And.intro ?_ ?_ | (simp [AV.ren, AV.rens, AObj.ren, Ent.ren, AV.inn, AV.inns, AObj.inn, *]; done)))) ?_)
      refine AW.cutT (fun fr hp => fr = [(0, .ptr 0 0 0 0)] ∧ hp = [⟨74, false, none, .var [.ints .u32 8 (s.add e).l, .ints .u32 64 (wsI m 64), .int .i64 h, .int .u64 n]⟩]) ?_ ?_
      · refine AW.pre tokT (fun _ => true) ?_; (conv => whnf)
        refine AW.block ?_
        (refine AW.turnL [0, 1] [(0, .ptr 0 0 0 0), (156, .sl 1 0 8 (some 8)), (157, .int .i64 8), (158, .int .i64 0)] [⟨74, false, none, .var [.ints .u32 8 s.l, .ints .u32 64 (wsI m 64), .int .i64 h, .int .u64 n]⟩, ⟨1, false, none, .ints .u32 e.l⟩] (by rfl) (by rfl) (by rfl) (by (repeat' (first | exact True.intro | exact rfl | refine And.intro ?_ ?_ | (simp [AV.ren, AV.rens, AObj.ren, Ent.ren, AV.inn, AV.inns, AObj.inn, *]; done)))) (by (repeat' (first | exact True.intro | exact rfl | refine And.intro ?_ ?_ | (simp [AV.ren, AV.rens, AObj.ren, Ent.ren, AV.inn, AV.inns, AObj.inn, *]; done)))) ?_)
        refine AW.loop (fun q fr hp => ∃ (j : Nat), q = 8 - j ∧ j ≤ 8 ∧ fr = [(0, .ptr 0 0 0 0), (156, .sl 1 0 8 (some 8)), (157, .int .i64 8), (158, .int .i64 j)] ∧
          hp = [⟨74, false, none, .var [.ints .u32 8 (hsI s e j), .ints .u32 64 (wsI m 64), .int .i64 h, .int .u64 n]⟩, ⟨1, false, none, .ints .u32 e.l⟩]) 8 ?_ ?_
        · exact ⟨0, rfl, by omega, rfl, rfl⟩
        · rintro q fr hp ⟨j, rfl, hj, rfl, rfl⟩ -
          refine AW.post ?_
          refine ev_sound tokT (keep := fun _ => true) ?_
          (conv => whnf); (cases hlt : (decide ((↑j : Int) < 8) : Bool) <;> (try simp only [beq_iff_eq, beq_eq_false_iff_ne, ne_eq, decide_eq_true_eq, decide_eq_false_iff_not, bne_iff_ne, bne_eq_false_iff_eq, Bool.not_eq_true, Bool.not_eq_false, gt_iff_lt, ge_iff_le] at hlt) <;> (try (exfalso; omega)))
          case' false =>
            (conv => whnf)
            have : j = 8 := by omega
            subst this
            (refine Turned.of [0] [(0, .ptr 0 0 0 0)] [⟨74, false, none, .var [.ints .u32 8 (s.add e).l, .ints .u32 64 (wsI m 64), .int .i64 h, .int .u64 n]⟩] (by rfl) (by rfl) (by rfl) (by (repeat' (first | exact True.intro | exact rfl | refine And.intro ?_ ?_ | (simp [AV.ren, AV.rens, AObj.ren, Ent.ren, AV.inn, AV.inns, AObj.inn, *]; done)))) (by (repeat' (first | exact True.intro | exact rfl | refine And.intro ?_ ?_ | (simp [AV.ren, AV.rens, AObj.ren, Ent.ren, AV.inn, AV.inns, AObj.inn, *]; done)))) ?_)
            exact ⟨rfl, rfl⟩
          have hj8 : j < 8 := by omega
          have hel : j < e.l.length := by simp [St.l]; omega
          have hget := hsI_get s e hj8
          have hset := hsI_set s e hj8
          ((conv => whnf); (repeat (((refine And.intro (by first | assumption | omega) ?_); (conv => whnf)))))
          refine AW.draw [(false, 0), (false, 1), (false, 2), (false, 3), (false, 4), (false, 5), (false, 6), (false, 7), (false, 8), (false, 9), (false, 10), (true, 11)] (keep := fun _ => true) mixed_ok' tokT (by kernel_rfl) (by kernel_rfl) ?_
          ((conv => whnf); (repeat (first | ((with_reducible (refine And.intro (show Go.Aw.againsK _ _ _ _ _ from ?_) ?_)); (focus (repeat' (first | ((with_reducible (show Go.Aw.againsK _ _ _ _ _)); (conv => whnf)) | ((with_reducible (show Go.Aw.againK _ _ _ _ _)); (conv => whnf)) | (with_reducible (exact True.intro)) | (with_reducible (refine And.intro ?_ ?_)) | exact rfl))); (conv => whnf)) | ((refine And.intro (by assumption) ?_); (conv => whnf)) | ((refine Exists.intro _ (And.intro (by ((conv => whnf); (repeat ((refine And.intro (by first | exact rfl | assumption | omega) ?_); (conv => whnf))))) ?_)); (conv => whnf)))))
          rw [show (j : Int).toNat = j by simp, show 0 + j = j by omega, hget, hset]
          rw [IntWalk.i64_in _ (by omega)]
          (refine Turned.of [0, 1] [(0, .ptr 0 0 0 0), (156, .sl 1 0 8 (some 8)), (157, .int .i64 8), (158, .int .i64 ((j + 1 : Nat) : Int))] [⟨74, false, none, .var [.ints .u32 8 (hsI s e (j + 1)), .ints .u32 64 (wsI m 64), .int .i64 h, .int .u64 n]⟩, ⟨1, false, none, .ints .u32 e.l⟩] (by rfl) (by rfl) (by rfl) (by (repeat' (first | exact True.intro | exact rfl | refine And.intro ?_ ?_ | (simp [AV.ren, AV.rens, AObj.ren, Ent.ren, AV.inn, AV.inns, AObj.inn, *]; done)))) (by (repeat' (first | exact True.intro | exact rfl | refine And.intro ?_ ?_ | (simp [AV.ren, AV.rens, AObj.ren, Ent.ren, AV.inn, AV.inns, AObj.inn, *]; done)))) ?_)
          exact ⟨8 - (j + 1), by omega, j + 1, rfl, by omega, rfl, rfl⟩
      · rintro fr hp ⟨rfl, rfl⟩
        refine ev_sound tokT (keep := fun _ => true) ?_
        (conv => whnf)
        (refine Left.of [0] (.tup []) [⟨74, false, none, .var [.ints .u32 8 (s.add e).l, .ints .u32 64 (List.replicate 64 0), .int .i64 0, .int .u64 n]⟩] (by rfl) (by rfl) (by rfl) (by (repeat' (first | exact True.intro | exact rfl | refine And.intro ?_ ?_))) (by rfl) (by (repeat' (first | exact True.intro | exact rfl | refine And.intro ?_ ?_))) ?_)
        refine ⟨rfl, ?_⟩
        unfold compr
        rw [he]
  · intro hr
    refine AW.pre tokT (fun _ => true) ?_; (conv => whnf)
    refine AC.frame roots_ok [] (by (repeat' (exact True.intro))) (by rfl) (by (repeat' (exact True.intro))) (by rfl) ?_
    rintro r0 hp0 ⟨rfl, rfl⟩
    (conv => whnf)
    refine AW.seq (AW.draw [(false, 0), (false, 1), (false, 2), (false, 3), (false, 4), (false, 5), (false, 6), (false, 7), (false, 8), (false, 9), (false, 10), (false, 11), (false, 12), (false, 13), (false, 14), (false, 15), (false, 16), (false, 17), (false, 18), (false, 19), (false, 20), (false, 21), (false, 22), (false, 23), (false, 24), (false, 25), (false, 26), (false, 27), (false, 28), (false, 29), (false, 30), (false, 31), (false, 32), (false, 33), (false, 34), (false, 35), (false, 36), (false, 37), (false, 38), (false, 39), (false, 40), (false, 41), (false, 42), (false, 43), (false, 44), (false, 45), (false, 46), (false, 47)]
        (keep := fun _ => true) mixed_ok' tokT (by kernel_rfl) (by kernel_rfl) ?_)
    ((conv => whnf); (repeat (((refine Exists.intro _ (And.intro (by ((conv => whnf); (repeat ((refine And.intro (by first | exact rfl | omega) ?_); (conv => whnf))))) ?_)); (conv => whnf)))))
    refine AW.pre tokT (fun _ => true) ?_; (conv => whnf)
    refine AW.pre tokT (fun _ => true) ?_; (conv => whnf)
    (refine AW.turnL [0, 1] (roundF s 0) [⟨74, false, none, .var [.ints .u32 8 s.l, .ints .u32 64 (wsI m 0), .int .i64 h, .int .u64 n]⟩, ⟨64, false, none, .var [.ints .u32 64 (kT.map Int.ofNat)]⟩] (by rfl) (by rfl) (by rfl) (by (repeat' (first | exact True.intro | exact rfl | refine And.intro ?_ ?_ | (simp [AV.ren, AV.rens, AObj.ren, Ent.ren, AV.inn, AV.inns, AObj.inn, *]; done)))) (by (repeat' (first | exact True.intro | exact rfl | refine And.intro ?_ ?_ | (simp [AV.ren, AV.rens, AObj.ren, Ent.ren, AV.inn, AV.inns, AObj.inn, *]; done)))) ?_)
    refine AW.pre tokT (fun _ => true) ?_; (conv => whnf)
    exact hr _ _ _ ⟨0, rfl, by omega, rfl, rfl⟩
end Go.Aw
end

section
/-
  AwSh4: sha's begin, take, end, Sum. Own work.
-/
set_option linter.unusedVariables false
set_option linter.unusedSimpArgs false
set_option maxRecDepth 20000
open Go.Proofs
namespace Go.Aw

/-- a summer: what it took in -/
def sumE (x : St × List Int) (n : Int) : Ent := ⟨74, false, none, .var [.ints .u32 8 x.1.l, .ints .u32 64 (wsI (wordsOf x.2) 0), .int .i64 (x.2.length : Int), .int .u64 n]⟩

theorem begin_ok : AC Try.prog 77 [] [] (fun r hp' => r = .ptr 0 0 0 0 ∧ hp' = [sumE (ivS, []) 0]) := by
  refine AC.left (AC.body tokT Try.func77 rfl rfl rfl (by decide) (by rfl) ?_)
  refine ev_sound tokT (keep := fun _ => true) ?_
  (conv => whnf)
  (refine Left.of [0] (.ptr 0 0 0 0) [sumE (ivS, []) 0] (by rfl) (by rfl) (by rfl) (by (repeat' (first | exact True.intro | exact rfl | refine And.intro ?_ ?_ | (simp [AV.ren, AV.rens, AObj.ren, Ent.ren, AV.inn, AV.inns, AObj.inn, *]; done)))) (by rfl) (by (repeat' (first | exact True.intro | exact rfl | refine And.intro ?_ ?_ | (simp [AV.ren, AV.rens, AObj.ren, Ent.ren, AV.inn, AV.inns, AObj.inn, *]; done)))) ?_)
  exact ⟨rfl, rfl⟩

theorem wsI_more (p : List Int) (c : Int) (h : p.length < 64) : (wsI (wordsOf p) 0).set (p.length / 4) (wI ((wordsOf p).getD (p.length / 4) 0 ||| bW c <<< (24 - 8 * (p.length % 4)))) = wsI (wordsOf (p ++ [c])) 0 := by
  rw [wordsOf_more p c h]
  have e : ∀ q, wsI q 0 = q.map wI ++ List.replicate 48 0 := fun q => rfl
  rw [e, e]
  rw [List.set_append_left _ _ (by simp [wordsOf_length]; omega), List.map_set]

theorem wsI_nil : wsI (wordsOf []) 0 = List.replicate 64 0 := by rw [wordsOf_nil]; rfl
theorem sumE_nil (s : St) (n : Int) : sumE (s, []) n = ⟨74, false, none, .var [.ints .u32 8 s.l, .ints .u32 64 (List.replicate 64 0), .int .i64 0, .int .u64 n]⟩ := by
  unfold sumE; rw [wsI_nil]; rfl

theorem take_ok (x : St × List Int) (c n : Int) (hx : x.2.length < 64) :
    AC Try.prog 78 [.ptr 0 0 0 0, .int .u8 c] [sumE x n] (fun r hp' => r = .tup [] ∧ hp' = [sumE (takeB x c) n]) := by
  obtain ⟨s, p⟩ := x
  simp only at hx
  have hq : IntKind.i64.wrap ((p.length : Int).tdiv 4) = ((p.length / 4 : Nat) : Int) := by
    rw [Int.tdiv_eq_ediv_of_nonneg (by omega), IntWalk.i64_in _ (by omega)]; omega
  have hr : (p.length : Int).tmod 4 = ((p.length % 4 : Nat) : Int) := by
    rw [Int.tmod_eq_emod_of_nonneg (by omega)]; omega
  have hs : IntKind.i64.wrap (24 - IntKind.i64.wrap (8 * ((p.length % 4 : Nat) : Int))) = ((24 - 8 * (p.length % 4) : Nat) : Int) := by
    rw [IntWalk.i64_in (8 * _) (by omega), IntWalk.i64_in _ (by omega)]; omega
  have hget : (wsI (wordsOf p) 0).getD (p.length / 4) 0 = wI ((wordsOf p).getD (p.length / 4) 0) := by
    have h48 := sch_prefix (wordsOf p) 0 48 (p.length / 4) (by rw [wordsOf_length]; omega)
    rw [wsI_get _ (wordsOf_length p) (by omega) (by omega)]
    rw [Nat.zero_add] at h48
    rw [h48]; rfl
  have hset := wsI_more p c hx
  refine AC.left (AC.body tokT Try.func78 rfl rfl rfl (by decide) (by rfl) ?_)
  refine AW.seq (AW.draw [(false, 0), (false, 1), (false, 2), (false, 3), (false, 4), (false, 5), (false, 6), (false, 7), (false, 8), (false, 9), (false, 10), (false, 11), (false, 12), (false, 13), (false, 14), (false, 15), (false, 16), (false, 17), (false, 18), (false, 19), (false, 20), (false, 21), (false, 22), (false, 23), (true, 24)] (keep := fun _ => true) mixed_ok' tokT (by kernel_rfl) (by kernel_rfl) ?_)
  ((conv => whnf); (repeat (((refine Exists.intro _ (And.intro (by ((conv => whnf); (repeat ((refine And.intro (by first | exact rfl | omega) ?_); (conv => whnf))))) ?_)); (conv => whnf)))))
  rw [hq]
  ((conv => whnf); (repeat (((refine Exists.intro _ (And.intro (by ((conv => whnf); (repeat ((refine And.intro (by first | exact rfl | omega) ?_); (conv => whnf))))) ?_)); (conv => whnf)))))
  rw [hr, hs]
  ((conv => whnf); (repeat (first | ((with_reducible (refine And.intro (show Go.Aw.againsK _ _ _ _ _ from ?_) ?_)); (focus (repeat' (first | ((with_reducible (show Go.Aw.againsK _ _ _ _ _)); (conv => whnf)) | ((with_reducible (show Go.Aw.againK _ _ _ _ _)); (conv => whnf)) | (with_reducible (exact True.intro)) | (with_reducible (refine And.intro ?_ ?_)) | exact rfl))); (conv => whnf)) | ((refine And.intro (by omega) ?_); (conv => whnf)) | ((refine Exists.intro _ (And.intro (by ((conv => whnf); (repeat ((refine And.intro (by first | exact rfl | omega) ?_); (conv => whnf))))) ?_)); (conv => whnf)))))
  rw [show (((p.length / 4 : Nat) : Int)).toNat = p.length / 4 from Int.toNat_natCast _, hget, wrap_wI c, show BitVec.ofInt 32 c = bW c from rfl, w_shl _ _ (by omega), w_or, hset]
  (refine AW.turnL [0] [(0, .ptr 0 0 0 0)] [⟨74, false, none, .var [.ints .u32 8 s.l, .ints .u32 64 (wsI (wordsOf (p ++ [c])) 0), .int .i64 (p.length : Int), .int .u64 n]⟩] (by rfl) (by rfl) (by rfl) (by (repeat' (first | exact True.intro | exact rfl | refine And.intro ?_ ?_ | (simp [AV.ren, AV.rens, AObj.ren, Ent.ren, AV.inn, AV.inns, AObj.inn, *]; done)))) (by (repeat' (first | exact True.intro | exact rfl | refine And.intro ?_ ?_ | (simp [AV.ren, AV.rens, AObj.ren, Ent.ren, AV.inn, AV.inns, AObj.inn, *]; done)))) ?_)
  refine AW.pre tokT (fun _ => true) ?_; (conv => whnf)
  refine ev_sound tokT (keep := fun _ => true) ?_
  (conv => whnf)
  rw [IntWalk.i64_in _ (by omega)]
  (cases h63 : ((↑p.length : Int) + 1 == 64 : Bool) <;> (try simp only [beq_iff_eq, beq_eq_false_iff_ne, ne_eq, decide_eq_true_eq, decide_eq_false_iff_not, bne_iff_ne, bne_eq_false_iff_eq, Bool.not_eq_true, Bool.not_eq_false, gt_iff_lt, ge_iff_le] at h63) <;> (try (exfalso; omega)))
  case' true =>
    (conv => whnf)
    have hp63 : p.length = 63 := by omega
    refine AC.frame (stir_ok s (wordsOf (p ++ [c])) (wordsOf_length _) ((p.length : Int) + 1) n) [0] (by (repeat' (first | exact True.intro | exact rfl | refine And.intro ?_ ?_))) (by rfl) (by (repeat' (first | exact True.intro | refine And.intro ?_ ?_ | (simp [AV.ren, AV.rens, AObj.ren, Ent.ren, AV.inn, AV.inns, AObj.inn, *]; done)))) (by rfl) ?_
    rintro r0 hp0 ⟨rfl, rfl⟩
    (conv => whnf)
    (refine Left.of [0] (.tup []) [⟨74, false, none, .var [.ints .u32 8 (compr s (wordsOf (p ++ [c]))).l, .ints .u32 64 (List.replicate 64 0), .int .i64 0, .int .u64 n]⟩] (by rfl) (by rfl) (by rfl) (by (repeat' (first | exact True.intro | exact rfl | refine And.intro ?_ ?_))) (by rfl) (by (repeat' (first | exact True.intro | exact rfl | refine And.intro ?_ ?_))) ?_)
    refine ⟨rfl, ?_⟩
    simp only [takeB, hp63, if_true, sumE_nil]
  (conv => whnf)
  have hp63 : ¬ p.length = 63 := by omega
  (refine Left.of [0] (.tup []) [⟨74, false, none, .var [.ints .u32 8 s.l, .ints .u32 64 (wsI (wordsOf (p ++ [c])) 0), .int .i64 ((p.length : Int) + 1), .int .u64 n]⟩] (by rfl) (by rfl) (by rfl) (by (repeat' (first | exact True.intro | exact rfl | refine And.intro ?_ ?_))) (by rfl) (by (repeat' (first | exact True.intro | exact rfl | refine And.intro ?_ ?_))) ?_)
  refine ⟨rfl, ?_⟩
  simp only [takeB, if_neg hp63, sumE, List.length_append, List.length_singleton]
  rfl

/-! ### the end -/
def St.w (s : St) : Nat → W32
  | 0 => s.a | 1 => s.b | 2 => s.c | 3 => s.d | 4 => s.e | 5 => s.f | 6 => s.g | _ => s.h
theorem takeSnoc (l : List Int) (i : Nat) (h : i < l.length) : l.take (i + 1) = l.take i ++ [l.getD i 0] := by
  rw [List.take_add_one, List.getD_eq_getElem?_getD, List.getElem?_eq_getElem h]; simp
theorem out_get (s : St) {i : Nat} (h : i < 32) : IntKind.u8.wrap (wI ((s.w (i / 4)) >>> (24 - 8 * (i % 4)))) = (outS s).getD i 0 := by
  have : i = 0 ∨ i = 1 ∨ i = 2 ∨ i = 3 ∨ i = 4 ∨ i = 5 ∨ i = 6 ∨ i = 7 ∨ i = 8 ∨ i = 9 ∨ i = 10 ∨ i = 11 ∨ i = 12 ∨ i = 13 ∨ i = 14 ∨ i = 15 ∨ i = 16 ∨ i = 17 ∨ i = 18 ∨ i = 19 ∨ i = 20 ∨ i = 21 ∨ i = 22 ∨ i = 23 ∨ i = 24 ∨ i = 25 ∨ i = 26 ∨ i = 27 ∨ i = 28 ∨ i = 29 ∨ i = 30 ∨ i = 31 := by omega
  rcases this with rfl | rfl | rfl | rfl | rfl | rfl | rfl | rfl | rfl | rfl | rfl | rfl | rfl | rfl | rfl | rfl | rfl | rfl | rfl | rfl | rfl | rfl | rfl | rfl | rfl | rfl | rfl | rfl | rfl | rfl | rfl | rfl <;> rw [IntKind.wrap_u8] <;> rfl
theorem l_get (s : St) {i : Nat} (h : i < 32) : s.l.getD (i / 4) 0 = wI (s.w (i / 4)) := by
  have : i / 4 = 0 ∨ i / 4 = 1 ∨ i / 4 = 2 ∨ i / 4 = 3 ∨ i / 4 = 4 ∨ i / 4 = 5 ∨ i / 4 = 6 ∨ i / 4 = 7 := by omega
  rcases this with e | e | e | e | e | e | e | e <;> rw [e] <;> rfl
/-- the sum's bytes, so many of them laid down -/
def outI (s : St) (i : Nat) : List Int := (outS s).take i ++ List.replicate (32 - i) 0
theorem outI_set (s : St) {i : Nat} (h : i < 32) : (outI s i).set i ((outS s).getD i 0) = outI s (i + 1) := by
  unfold outI
  have hl := outS_length s
  rw [List.set_append_right _ _ (by simp; omega)]
  have : i - ((outS s).take i).length = 0 := by simp; omega
  rw [this, show 32 - i = (32 - (i + 1)) + 1 by omega, List.replicate_succ, List.set_cons_zero, takeSnoc _ _ (by omega)]
  simp
theorem be8_get (N : Int) {i : Nat} (h : i < 8) : (be8 N).getD i 0 = N / 256 ^ (7 - i) % 256 := by
  have : i = 0 ∨ i = 1 ∨ i = 2 ∨ i = 3 ∨ i = 4 ∨ i = 5 ∨ i = 6 ∨ i = 7 := by omega
  rcases this with rfl | rfl | rfl | rfl | rfl | rfl | rfl | rfl <;> simp [be8]

/-- what 'end' takes in -/
def endL (k : Nat) (N : Int) : List Int := 128 :: (List.replicate ((119 - k) % 64) 0 ++ be8 N)
theorem end_ok (x : St × List Int) (n : Int) (hx : x.2.length < 64) (h0 : 0 ≤ n) (h1 : 8 * n < 18446744073709551616) :
    AC Try.prog 79 [.ptr 0 0 0 0] [sumE x n] (fun r hp' => r = .agg [.ints .u8 32 (outS (takesB x (endL x.2.length (8 * n))).1)] ∧ hp' = [sumE (takesB x (endL x.2.length (8 * n))) n]) := by
  refine AC.left (AC.body tokT Try.func79 rfl rfl rfl (by decide) (by rfl) ?_)
  refine AW.pre tokT (fun _ => true) ?_; (conv => whnf)
  refine AW.pre tokT (fun _ => true) ?_; (conv => whnf)
  rw [IntWalk.u64_in _ (by omega)]
  refine AW.pre tokT (fun _ => true) ?_; (conv => whnf)
  refine AC.frame (take_ok x 128 n hx) [0] (by (repeat' (first | exact True.intro | exact rfl | refine And.intro ?_ ?_))) (by rfl) (by (repeat' (first | exact True.intro | refine And.intro ?_ ?_ | (simp [AV.ren, AV.rens, AObj.ren, Ent.ren, AV.inn, AV.inns, AObj.inn, *]; done)))) (by rfl) ?_
  rintro r0 hp0 ⟨rfl, rfl⟩
  (conv => whnf)
  have hl1 := takeB_length 128 hx
  obtain ⟨y, hy⟩ : ∃ y, takeB x 128 = y := ⟨_, rfl⟩
  rw [hy] at hl1 ⊢
  have hyl : y.2.length < 64 := by omega
  -- zeros
  refine AW.cutT (fun fr hp => fr = [(0, .ptr 0 0 0 0), (2, .ptr 1 0 0 0), (3, .int .u64 (8 * n))] ∧ hp = [sumE (takesB y (List.replicate ((119 - x.2.length) % 64) 0)) n, ⟨32, false, none, .var [.ints .u8 32 (List.replicate 32 0)]⟩]) ?_ ?_
  · refine AW.block ?_
    (refine AW.turnL [0, 1] [(0, .ptr 0 0 0 0), (2, .ptr 1 0 0 0), (3, .int .u64 (8 * n))] [sumE y n, ⟨32, false, none, .var [.ints .u8 32 (List.replicate 32 0)]⟩] (by rfl) (by rfl) (by rfl) (by (repeat' (first | exact True.intro | exact rfl | refine And.intro ?_ ?_ | (simp [AV.ren, AV.rens, AObj.ren, Ent.ren, AV.inn, AV.inns, AObj.inn, *]; done)))) (by (repeat' (first | exact True.intro | exact rfl | refine And.intro ?_ ?_ | (simp [AV.ren, AV.rens, AObj.ren, Ent.ren, AV.inn, AV.inns, AObj.inn, *]; done)))) ?_)
    refine AW.loop (fun q fr hp => ∃ j, q = 64 - j ∧ j ≤ (119 - x.2.length) % 64 ∧ fr = [(0, .ptr 0 0 0 0), (2, .ptr 1 0 0 0), (3, .int .u64 (8 * n))] ∧ hp = [sumE (takesB y (List.replicate j 0)) n, ⟨32, false, none, .var [.ints .u8 32 (List.replicate 32 0)]⟩]) 64 ?_ ?_
    · exact ⟨0, rfl, by omega, rfl, rfl⟩
    · rintro q fr hp ⟨j, rfl, hj, rfl, rfl⟩ -
      have hzl := takesB_length (List.replicate j 0) hyl
      simp only [List.length_replicate] at hzl
      obtain ⟨z, hz⟩ : ∃ z, takesB y (List.replicate j 0) = z := ⟨_, rfl⟩
      rw [hz] at hzl ⊢
      refine AW.post ?_
      refine ev_sound tokT (keep := fun _ => true) ?_
      (conv => whnf); (cases h56 : ((↑z.snd.length : Int) != 56 : Bool) <;> (try simp only [beq_iff_eq, beq_eq_false_iff_ne, ne_eq, decide_eq_true_eq, decide_eq_false_iff_not, bne_iff_ne, bne_eq_false_iff_eq, Bool.not_eq_true, Bool.not_eq_false, gt_iff_lt, ge_iff_le] at h56) <;> (try (exfalso; omega)))
      case' false =>
        (conv => whnf)
        have : j = (119 - x.2.length) % 64 := by omega
        rw [← this, hz]
        (refine Turned.of [0, 1] [(0, .ptr 0 0 0 0), (2, .ptr 1 0 0 0), (3, .int .u64 (8 * n))] [sumE z n, ⟨32, false, none, .var [.ints .u8 32 (List.replicate 32 0)]⟩] (by rfl) (by rfl) (by rfl) (by (repeat' (first | exact True.intro | exact rfl | refine And.intro ?_ ?_ | (simp [AV.ren, AV.rens, AObj.ren, Ent.ren, AV.inn, AV.inns, AObj.inn, *]; done)))) (by (repeat' (first | exact True.intro | exact rfl | refine And.intro ?_ ?_ | (simp [AV.ren, AV.rens, AObj.ren, Ent.ren, AV.inn, AV.inns, AObj.inn, *]; done)))) ?_)
        exact ⟨rfl, rfl⟩
      (conv => whnf)
      refine AC.frame (take_ok z 0 n (by omega)) [0] (by (repeat' (first | exact True.intro | exact rfl | refine And.intro ?_ ?_))) (by rfl) (by (repeat' (first | exact True.intro | refine And.intro ?_ ?_ | (simp [AV.ren, AV.rens, AObj.ren, Ent.ren, AV.inn, AV.inns, AObj.inn, *]; done)))) (by rfl) ?_
      rintro r0 hp0 ⟨rfl, rfl⟩
      (conv => whnf)
      (refine Turned.of [0, 1] [(0, .ptr 0 0 0 0), (2, .ptr 1 0 0 0), (3, .int .u64 (8 * n))] [sumE (takeB z 0) n, ⟨32, false, none, .var [.ints .u8 32 (List.replicate 32 0)]⟩] (by rfl) (by rfl) (by rfl) (by (repeat' (first | exact True.intro | exact rfl | refine And.intro ?_ ?_ | (simp [AV.ren, AV.rens, AObj.ren, Ent.ren, AV.inn, AV.inns, AObj.inn, *]; done)))) (by (repeat' (first | exact True.intro | exact rfl | refine And.intro ?_ ?_ | (simp [AV.ren, AV.rens, AObj.ren, Ent.ren, AV.inn, AV.inns, AObj.inn, *]; done)))) ?_)
      refine ⟨64 - (j + 1), by omega, j + 1, rfl, by omega, rfl, ?_⟩
      rw [show List.replicate (j + 1) (0 : Int) = List.replicate j 0 ++ [0] from List.replicate_succ', takesB_append, hz]; rfl
  · rintro fr hp ⟨rfl, rfl⟩
    have hzl := takesB_length (List.replicate ((119 - x.2.length) % 64) 0) hyl
    simp only [List.length_replicate] at hzl
    obtain ⟨z, hz⟩ : ∃ z, takesB y (List.replicate ((119 - x.2.length) % 64) 0) = z := ⟨_, rfl⟩
    rw [hz] at hzl ⊢
    obtain ⟨N, hN⟩ : ∃ N, 8 * n = N := ⟨_, rfl⟩
    rw [hN] at h1 ⊢
    have hN0 : 0 ≤ N := by omega
    have hb8 : (be8 N).length = 8 := rfl
    -- the number of bits
    refine AW.cutT (fun fr hp => fr = [(0, .ptr 0 0 0 0), (2, .ptr 1 0 0 0)] ∧ hp = [sumE (takesB z (be8 N)) n, ⟨32, false, none, .var [.ints .u8 32 (List.replicate 32 0)]⟩]) ?_ ?_
    · refine AW.pre tokT (fun _ => true) ?_; (conv => whnf)
      refine AW.block ?_
      (refine AW.turnL [0, 1] [(0, .ptr 0 0 0 0), (2, .ptr 1 0 0 0), (3, .int .u64 N), (20, .int .i64 0)] [sumE z n, ⟨32, false, none, .var [.ints .u8 32 (List.replicate 32 0)]⟩] (by rfl) (by rfl) (by rfl) (by (repeat' (first | exact True.intro | exact rfl | refine And.intro ?_ ?_ | (simp [AV.ren, AV.rens, AObj.ren, Ent.ren, AV.inn, AV.inns, AObj.inn, *]; done)))) (by (repeat' (first | exact True.intro | exact rfl | refine And.intro ?_ ?_ | (simp [AV.ren, AV.rens, AObj.ren, Ent.ren, AV.inn, AV.inns, AObj.inn, *]; done)))) ?_)
      refine AW.loop (fun q fr hp => ∃ j, q = 8 - j ∧ j ≤ 8 ∧ fr = [(0, .ptr 0 0 0 0), (2, .ptr 1 0 0 0), (3, .int .u64 N), (20, .int .i64 j)] ∧ hp = [sumE (takesB z ((be8 N).take j)) n, ⟨32, false, none, .var [.ints .u8 32 (List.replicate 32 0)]⟩]) 8 ?_ ?_
      · exact ⟨0, rfl, by omega, rfl, rfl⟩
      · rintro q fr hp ⟨j, rfl, hj, rfl, rfl⟩ -
        have hul := takesB_length ((be8 N).take j) (x := z) (by omega)
        obtain ⟨u, hu⟩ : ∃ u, takesB z ((be8 N).take j) = u := ⟨_, rfl⟩
        rw [hu] at hul ⊢
        refine AW.post ?_
        refine ev_sound tokT (keep := fun _ => true) ?_
        (conv => whnf); (cases hlt : (decide ((↑j : Int) < 8) : Bool) <;> (try simp only [beq_iff_eq, beq_eq_false_iff_ne, ne_eq, decide_eq_true_eq, decide_eq_false_iff_not, bne_iff_ne, bne_eq_false_iff_eq, Bool.not_eq_true, Bool.not_eq_false, gt_iff_lt, ge_iff_le] at hlt) <;> (try (exfalso; omega)))
        case' false =>
          (conv => whnf)
          have : j = 8 := by omega
          subst this
          rw [show (be8 N).take 8 = be8 N from rfl] at hu
          rw [hu]
          (refine Turned.of [0, 1] [(0, .ptr 0 0 0 0), (2, .ptr 1 0 0 0)] [sumE u n, ⟨32, false, none, .var [.ints .u8 32 (List.replicate 32 0)]⟩] (by rfl) (by rfl) (by rfl) (by (repeat' (first | exact True.intro | exact rfl | refine And.intro ?_ ?_ | (simp [AV.ren, AV.rens, AObj.ren, Ent.ren, AV.inn, AV.inns, AObj.inn, *]; done)))) (by (repeat' (first | exact True.intro | exact rfl | refine And.intro ?_ ?_ | (simp [AV.ren, AV.rens, AObj.ren, Ent.ren, AV.inn, AV.inns, AObj.inn, *]; done)))) ?_)
          exact ⟨rfl, rfl⟩
        have hj8 : j < 8 := by omega
        have e1 : IntKind.i64.wrap (56 - IntKind.i64.wrap (8 * (j : Int))) = ((56 - 8 * j : Nat) : Int) := by
          rw [IntWalk.i64_in (8 * _) (by omega), IntWalk.i64_in _ (by omega)]; omega
        have e1' : 0 ≤ IntKind.i64.wrap (56 - IntKind.i64.wrap (8 * (j : Int))) := by rw [e1]; omega
        ((conv => whnf); (repeat (((refine And.intro (by assumption) ?_); (conv => whnf)))))
        rw [e1]
        (conv => whnf)
        have e2 : IntKind.u8.wrap (shrI .u64 N ((56 - 8 * j : Nat) : Int)) = (be8 N).getD j 0 := by
          rw [be8_get N hj8, IntKind.wrap_u8]
          unfold shrI
          have : min (((56 - 8 * j : Nat) : Int)).toNat IntKind.u64.bits = 56 - 8 * j := by simp only [IntKind.bits]; omega
          rw [this, Int.fdiv_eq_ediv_of_nonneg _ (by exact Int.le_of_lt (Int.pow_pos (by omega)))]
          rw [show (56 - 8 * j) = 8 * (7 - j) by omega, Int.pow_mul]
          rfl
        rw [e2]
        refine AC.frame (take_ok u _ n (by omega)) [0] (by (repeat' (first | exact True.intro | exact rfl | refine And.intro ?_ ?_))) (by rfl) (by (repeat' (first | exact True.intro | refine And.intro ?_ ?_ | (simp [AV.ren, AV.rens, AObj.ren, Ent.ren, AV.inn, AV.inns, AObj.inn, *]; done)))) (by rfl) ?_
        rintro r0 hp0 ⟨rfl, rfl⟩
        (conv => whnf)
        rw [IntWalk.i64_in _ (by omega)]
        (refine Turned.of [0, 1] [(0, .ptr 0 0 0 0), (2, .ptr 1 0 0 0), (3, .int .u64 N), (20, .int .i64 ((j + 1 : Nat) : Int))] [sumE (takeB u ((be8 N).getD j 0)) n, ⟨32, false, none, .var [.ints .u8 32 (List.replicate 32 0)]⟩] (by rfl) (by rfl) (by rfl) (by (repeat' (first | exact True.intro | exact rfl | refine And.intro ?_ ?_ | (simp [AV.ren, AV.rens, AObj.ren, Ent.ren, AV.inn, AV.inns, AObj.inn, *]; done)))) (by (repeat' (first | exact True.intro | exact rfl | refine And.intro ?_ ?_ | (simp [AV.ren, AV.rens, AObj.ren, Ent.ren, AV.inn, AV.inns, AObj.inn, *]; done)))) ?_)
        refine ⟨8 - (j + 1), by omega, j + 1, rfl, by omega, rfl, ?_⟩
        rw [takeSnoc _ _ (by omega), takesB_append, hu]; rfl
    · rintro fr hp ⟨rfl, rfl⟩
      obtain ⟨v, hv⟩ : ∃ v, takesB z (be8 N) = v := ⟨_, rfl⟩
      have hend : takesB x (endL x.2.length N) = v := by
        unfold endL
        rw [takesB_cons, hy, takesB_append, hz, hv]
      rw [hend, hv]
      obtain ⟨s, p⟩ := v
      refine AW.cutT (fun fr hp => fr = [(0, .ptr 0 0 0 0), (2, .ptr 1 0 0 0)] ∧ hp = [sumE (s, p) n, ⟨32, false, none, .var [.ints .u8 32 (outS s)]⟩]) ?_ ?_
      · refine AW.pre tokT (fun _ => true) ?_; (conv => whnf)
        refine AW.block ?_
        (refine AW.turnL [0, 1] [(0, .ptr 0 0 0 0), (2, .ptr 1 0 0 0), (32, .int .i64 0)] [sumE (s, p) n, ⟨32, false, none, .var [.ints .u8 32 (List.replicate 32 0)]⟩] (by rfl) (by rfl) (by rfl) (by (repeat' (first | exact True.intro | exact rfl | refine And.intro ?_ ?_ | (simp [AV.ren, AV.rens, AObj.ren, Ent.ren, AV.inn, AV.inns, AObj.inn, *]; done)))) (by (repeat' (first | exact True.intro | exact rfl | refine And.intro ?_ ?_ | (simp [AV.ren, AV.rens, AObj.ren, Ent.ren, AV.inn, AV.inns, AObj.inn, *]; done)))) ?_)
        refine AW.loop (fun q fr hp => ∃ j, q = 32 - j ∧ j ≤ 32 ∧ fr = [(0, .ptr 0 0 0 0), (2, .ptr 1 0 0 0), (32, .int .i64 j)] ∧ hp = [sumE (s, p) n, ⟨32, false, none, .var [.ints .u8 32 (outI s j)]⟩]) 32 ?_ ?_
        · exact ⟨0, rfl, by omega, rfl, rfl⟩
        · rintro q fr hp ⟨j, rfl, hj, rfl, rfl⟩ -
          refine AW.post ?_
          refine ev_sound tokT (keep := fun _ => true) ?_
          (conv => whnf); (cases hlt : (decide ((↑j : Int) < 32) : Bool) <;> (try simp only [beq_iff_eq, beq_eq_false_iff_ne, ne_eq, decide_eq_true_eq, decide_eq_false_iff_not, bne_iff_ne, bne_eq_false_iff_eq, Bool.not_eq_true, Bool.not_eq_false, gt_iff_lt, ge_iff_le] at hlt) <;> (try (exfalso; omega)))
          case' false =>
            (conv => whnf)
            have : j = 32 := by omega
            subst this
            (refine Turned.of [0, 1] [(0, .ptr 0 0 0 0), (2, .ptr 1 0 0 0)] [sumE (s, p) n, ⟨32, false, none, .var [.ints .u8 32 (outI s 32)]⟩] (by rfl) (by rfl) (by rfl) (by (repeat' (first | exact True.intro | exact rfl | refine And.intro ?_ ?_ | (simp [AV.ren, AV.rens, AObj.ren, Ent.ren, AV.inn, AV.inns, AObj.inn, *]; done)))) (by (repeat' (first | exact True.intro | exact rfl | refine And.intro ?_ ?_ | (simp [AV.ren, AV.rens, AObj.ren, Ent.ren, AV.inn, AV.inns, AObj.inn, *]; done)))) ?_)
            refine ⟨rfl, ?_⟩
            unfold outI
            rw [List.take_of_length_le (by rw [outS_length]; omega)]; simp
          have hj32 : j < 32 := by omega
          have hl := l_get s hj32
          have ho := out_get s hj32
          have hset := outI_set s hj32
          have hq : IntKind.i64.wrap ((j : Int).tdiv 4) = ((j / 4 : Nat) : Int) := by
            rw [Int.tdiv_eq_ediv_of_nonneg (by omega), IntWalk.i64_in _ (by omega)]; omega
          have hr : (j : Int).tmod 4 = ((j % 4 : Nat) : Int) := by
            rw [Int.tmod_eq_emod_of_nonneg (by omega)]; omega
          have hs : IntKind.i64.wrap (24 - IntKind.i64.wrap (8 * ((j % 4 : Nat) : Int))) = ((24 - 8 * (j % 4) : Nat) : Int) := by
            rw [IntWalk.i64_in (8 * _) (by omega), IntWalk.i64_in _ (by omega)]; omega
          have hs' : 0 ≤ IntKind.i64.wrap (24 - IntKind.i64.wrap (8 * (j : Int).tmod 4)) := by rw [hr, hs]; omega
          ((conv => whnf); (repeat (((refine And.intro (by first | assumption | omega) ?_); (conv => whnf)))))
          rw [hq]
          (conv => whnf)
          rw [hr, hs, show (((j / 4 : Nat) : Int)).toNat = j / 4 from Int.toNat_natCast _, hl]
          (conv => whnf)
          rw [w_shr _ _ (by omega), ho, show (j : Int).toNat = j from Int.toNat_natCast _]
          rw [hset]
          rw [IntWalk.i64_in _ (by omega)]
          (refine Turned.of [0, 1] [(0, .ptr 0 0 0 0), (2, .ptr 1 0 0 0), (32, .int .i64 ((j + 1 : Nat) : Int))] [sumE (s, p) n, ⟨32, false, none, .var [.ints .u8 32 (outI s (j + 1))]⟩] (by rfl) (by rfl) (by rfl) (by (repeat' (first | exact True.intro | exact rfl | refine And.intro ?_ ?_ | (simp [AV.ren, AV.rens, AObj.ren, Ent.ren, AV.inn, AV.inns, AObj.inn, *]; done)))) (by (repeat' (first | exact True.intro | exact rfl | refine And.intro ?_ ?_ | (simp [AV.ren, AV.rens, AObj.ren, Ent.ren, AV.inn, AV.inns, AObj.inn, *]; done)))) ?_)
          exact ⟨32 - (j + 1), by omega, j + 1, rfl, by omega, rfl, rfl⟩
      · rintro fr hp ⟨rfl, rfl⟩
        refine ev_sound tokT (keep := fun _ => true) ?_
        (conv => whnf)
        (refine Left.of [0] (.agg [.ints .u8 32 (outS s)]) [sumE (s, p) n] (by rfl) (by rfl) (by rfl) (by (repeat' (first | exact True.intro | exact rfl | refine And.intro ?_ ?_))) (by rfl) (by (repeat' (first | exact True.intro | exact rfl | refine And.intro ?_ ?_))) ?_)
        exact ⟨rfl, rfl⟩
end Go.Aw
end

section
/-
  AwSh5: sha.Sum of pieces. Own work.
-/
set_option linter.unusedVariables false
set_option linter.unusedSimpArgs false
set_option maxRecDepth 20000
open Go.Proofs
namespace Go.Aw

/-- a piece of a block: where it begins, how long it is, its capacity if known -/
abbrev Piece := Nat × Nat × Option Nat
def Piece.cut (xs : List Int) (p : Piece) : List Int := (xs.drop p.1).take p.2.1
def Piece.av (p : Piece) : List AV := [.sl 1 p.1 p.2.1 p.2.2]
def catP (xs : List Int) : List Piece → List Int
  | [] => []
  | p :: r => Piece.cut xs p ++ catP xs r
theorem catP_append (xs : List Int) (a b : List Piece) : catP xs (a ++ b) = catP xs a ++ catP xs b := by
  induction a with
  | nil => rfl
  | cons x a ih => simp [catP, ih]
theorem takeSnocP {α : Type} (l : List α) (i : Nat) (h : i < l.length) : l.take (i + 1) = l.take i ++ [l[i]] := by
  rw [List.take_add_one, List.getElem?_eq_getElem h]; rfl
theorem catP_step (xs : List Int) (ps : List Piece) (i : Nat) (h : i < ps.length) : catP xs (ps.take (i + 1)) = catP xs (ps.take i) ++ Piece.cut xs ps[i] := by
  rw [takeSnocP _ _ h, catP_append]; simp [catP]
theorem catP_mono (xs : List Int) (ps : List Piece) (i : Nat) : (catP xs (ps.take i)).length ≤ (catP xs ps).length := by
  have h : catP xs ps = catP xs (ps.take i) ++ catP xs (ps.drop i) := by rw [← catP_append, List.take_append_drop]
  rw [h, List.length_append]; omega

theorem sum_ok (xs : List Int) (ps : List Piece) (cap : Option Nat) (hps : ∀ p ∈ ps, p.1 + p.2.1 ≤ xs.length) (hn : ps.length ≤ 65536) (hl : (catP xs ps).length ≤ 1152921504606846976) :
    AC Try.prog 30 [.sl 0 0 ps.length cap] [⟨1, true, none, .row (ps.map Piece.av)⟩, ⟨1, true, none, .ints .u8 xs⟩]
      (fun r hp' => r = .agg [.ints .u8 32 (shaL (catP xs ps))] ∧ hp' = [⟨1, true, none, .row (ps.map Piece.av)⟩, ⟨1, true, none, .ints .u8 xs⟩]) := by
  refine AC.left (AC.body tokT Try.func30 rfl rfl rfl (by decide) (by rfl) ?_)
  refine AW.pre tokT (fun _ => true) ?_; (conv => whnf)
  refine AW.pre tokT (fun _ => true) ?_; (conv => whnf)
  refine AC.frame begin_ok [] (by (repeat' (exact True.intro))) (by rfl) (by (repeat' (exact True.intro))) (by rfl) ?_
  rintro r0 hp0 ⟨rfl, rfl⟩
  (conv => whnf)
  obtain ⟨k, hk⟩ : ∃ k, ps.length = k := ⟨_, rfl⟩
  rw [hk] at hn ⊢
  obtain ⟨els, hels⟩ : ∃ els, ps.map Piece.av = els := ⟨_, rfl⟩
  rw [hels]
  have hel : ∀ (i : Nat) (h : i < ps.length), els[i]? = some [.sl 1 ps[i].1 ps[i].2.1 ps[i].2.2] := fun i h => by
    rw [← hels, List.getElem?_map, List.getElem?_eq_getElem h]; rfl
  have hfix : RowFix 2 els := by
    unfold RowFix
    rw [← hels]
    intro x hx
    obtain ⟨p, _, rfl⟩ := List.mem_map.1 hx
    simp [Piece.av, AV.inns, AV.inn]
  refine AW.cutT (fun fr hp => fr = [(0, .sl 0 0 k cap), (2, .ptr 2 0 0 0), (3, .ptr 3 0 0 0)] ∧
    hp = [⟨1, true, none, .row els⟩, ⟨1, true, none, .ints .u8 xs⟩, ⟨32, false, none, .var [.ints .u8 32 (List.replicate 32 0)]⟩, sumE (takesB (ivS, []) (catP xs ps)) ((catP xs ps).length : Int)]) ?_ ?_
  · refine AW.pre tokT (fun _ => true) ?_; (conv => whnf)
    refine AW.block ?_
    (refine AW.turnL [0, 1, 2, 3] [(0, .sl 0 0 k cap), (2, .ptr 2 0 0 0), (3, .ptr 3 0 0 0), (9, .sl 0 0 k cap), (10, .int .i64 k), (11, .int .i64 0)] [⟨1, true, none, .row els⟩, ⟨1, true, none, .ints .u8 xs⟩, ⟨32, false, none, .var [.ints .u8 32 (List.replicate 32 0)]⟩, sumE (ivS, []) 0] (by rfl) (by rfl) (by rfl) (by (repeat' (first | exact True.intro | exact rfl | refine And.intro ?_ ?_ | exact RowFix.ren (by assumption) rfl | exact RowFix.inn (by assumption) rfl | (simp [AV.ren, AV.rens, AObj.ren, Ent.ren, AV.inn, AV.inns, AObj.inn, *]; done)))) (by (repeat' (first | exact True.intro | exact rfl | refine And.intro ?_ ?_ | exact RowFix.ren (by assumption) rfl | exact RowFix.inn (by assumption) rfl | (simp [AV.ren, AV.rens, AObj.ren, Ent.ren, AV.inn, AV.inns, AObj.inn, *]; done)))) ?_)
    refine AW.loop (fun q fr hp => ∃ i, q = k - i ∧ i ≤ k ∧ fr = [(0, .sl 0 0 k cap), (2, .ptr 2 0 0 0), (3, .ptr 3 0 0 0), (9, .sl 0 0 k cap), (10, .int .i64 k), (11, .int .i64 i)] ∧
      hp = [⟨1, true, none, .row els⟩, ⟨1, true, none, .ints .u8 xs⟩, ⟨32, false, none, .var [.ints .u8 32 (List.replicate 32 0)]⟩, sumE (takesB (ivS, []) (catP xs (ps.take i))) ((catP xs (ps.take i)).length : Int)]) k ?_ ?_
    · exact ⟨0, by simp, by omega, rfl, by simp [catP, takesB]⟩
    · rintro q fr hp ⟨i, rfl, hi, rfl, rfl⟩ -
      have hmono := catP_mono xs ps i
      obtain ⟨A, hA⟩ : ∃ A, catP xs (ps.take i) = A := ⟨_, rfl⟩
      rw [hA] at hmono ⊢
      refine AW.post ?_
      refine ev_sound tokT (keep := fun _ => true) ?_
      (conv => whnf); (cases hlt : (decide ((↑i : Int) < (↑k : Int)) : Bool) <;> (try simp only [beq_iff_eq, beq_eq_false_iff_ne, ne_eq, decide_eq_true_eq, decide_eq_false_iff_not, bne_iff_ne, bne_eq_false_iff_eq, Bool.not_eq_true, Bool.not_eq_false, gt_iff_lt, ge_iff_le] at hlt) <;> (try (exfalso; omega)))
      case' false =>
        (conv => whnf)
        have : i = k := by omega
        subst this
        rw [show ps.take i = ps by rw [← hk, List.take_length]] at hA
        rw [hA]
        (refine Turned.of [0, 1, 2, 3] [(0, .sl 0 0 i cap), (2, .ptr 2 0 0 0), (3, .ptr 3 0 0 0)] [⟨1, true, none, .row els⟩, ⟨1, true, none, .ints .u8 xs⟩, ⟨32, false, none, .var [.ints .u8 32 (List.replicate 32 0)]⟩, sumE (takesB (ivS, []) A) (A.length : Int)] (by rfl) (by rfl) (by rfl) (by (repeat' (first | exact True.intro | exact rfl | refine And.intro ?_ ?_ | exact RowFix.ren (by assumption) rfl | exact RowFix.inn (by assumption) rfl | (simp [AV.ren, AV.rens, AObj.ren, Ent.ren, AV.inn, AV.inns, AObj.inn, *]; done)))) (by (repeat' (first | exact True.intro | exact rfl | refine And.intro ?_ ?_ | exact RowFix.ren (by assumption) rfl | exact RowFix.inn (by assumption) rfl | (simp [AV.ren, AV.rens, AObj.ren, Ent.ren, AV.inn, AV.inns, AObj.inn, *]; done)))) ?_)
        exact ⟨rfl, rfl⟩
      have hik : i < ps.length := by omega
      have hmono1 := catP_mono xs ps (i + 1)
      have hstep := catP_step xs ps i hik
      have hpi := hps ps[i] (List.getElem_mem hik)
      have hei := hel i hik
      obtain ⟨off, hoff⟩ : ∃ off, ps[i].1 = off := ⟨_, rfl⟩
      obtain ⟨ln, hln⟩ : ∃ ln, ps[i].2.1 = ln := ⟨_, rfl⟩
      obtain ⟨cp, hcp⟩ : ∃ cp, ps[i].2.2 = cp := ⟨_, rfl⟩
      have hcut : Piece.cut xs ps[i] = (xs.drop off).take ln := by unfold Piece.cut; rw [hoff, hln]
      rw [hoff, hln, hcp] at hei
      rw [hoff, hln] at hpi
      obtain ⟨B, hB⟩ : ∃ B, (xs.drop off).take ln = B := ⟨_, rfl⟩
      have hBl : B.length = ln := by rw [← hB]; simp; omega
      rw [hcut, hA, hB] at hstep
      rw [hstep] at hmono1
      simp only [List.length_append, hBl] at hmono1
      have hBg : ∀ j, j < ln → xs.getD (off + j) 0 = B.getD j 0 := fun j hj => by
        rw [← hB, List.getD_eq_getElem?_getD, List.getD_eq_getElem?_getD, List.getElem?_take_of_lt hj, List.getElem?_drop]
      ((conv => whnf); (repeat (((refine And.intro (by first | assumption | omega) ?_); (conv => whnf)))))
      rw [show 0 + (i : Int).toNat = i by simp, hei]
      (conv => whnf)
      rw [IntWalk.u64_in (ln : Int) (by omega), IntWalk.u64_in _ (by omega)]
      have hAl := takesB_length A (x := (ivS, [])) (by simp)
      simp only [List.length_nil, Nat.zero_add] at hAl
      obtain ⟨X, hX⟩ : ∃ X, takesB (ivS, []) A = X := ⟨_, rfl⟩
      rw [hX] at hAl ⊢
      have hfin : takesB (ivS, []) (catP xs (ps.take (i + 1))) = takesB X B := by rw [hstep, takesB_append, hX]
      have hlen : ((catP xs (ps.take (i + 1))).length : Int) = (A.length : Int) + ln := by rw [hstep]; simp [hBl]
      (refine AW.turnL [0, 1, 2, 3] [(0, .sl 0 0 k cap), (2, .ptr 2 0 0 0), (3, .ptr 3 0 0 0), (9, .sl 0 0 k cap), (10, .int .i64 k), (11, .int .i64 i), (25, .sl 1 off ln cp), (26, .int .i64 ln), (27, .int .i64 0)] [⟨1, true, none, .row els⟩, ⟨1, true, none, .ints .u8 xs⟩, ⟨32, false, none, .var [.ints .u8 32 (List.replicate 32 0)]⟩, sumE X ((A.length : Int) + ln)] (by rfl) (by rfl) (by rfl) (by (repeat' (first | exact True.intro | exact rfl | refine And.intro ?_ ?_ | exact RowFix.ren (by assumption) rfl | exact RowFix.inn (by assumption) rfl | (simp [AV.ren, AV.rens, AObj.ren, Ent.ren, AV.inn, AV.inns, AObj.inn, *]; done)))) (by (repeat' (first | exact True.intro | exact rfl | refine And.intro ?_ ?_ | exact RowFix.ren (by assumption) rfl | exact RowFix.inn (by assumption) rfl | (simp [AV.ren, AV.rens, AObj.ren, Ent.ren, AV.inn, AV.inns, AObj.inn, *]; done)))) ?_)
      refine AW.loop (fun q fr hp => ∃ j, q = ln - j ∧ j ≤ ln ∧ fr = [(0, .sl 0 0 k cap), (2, .ptr 2 0 0 0), (3, .ptr 3 0 0 0), (9, .sl 0 0 k cap), (10, .int .i64 k), (11, .int .i64 i), (25, .sl 1 off ln cp), (26, .int .i64 ln), (27, .int .i64 j)] ∧
        hp = [⟨1, true, none, .row els⟩, ⟨1, true, none, .ints .u8 xs⟩, ⟨32, false, none, .var [.ints .u8 32 (List.replicate 32 0)]⟩, sumE (takesB X (B.take j)) ((A.length : Int) + ln)]) ln ?_ ?_
      · exact ⟨0, by simp, by omega, rfl, rfl⟩
      · rintro q fr hp ⟨j, rfl, hj, rfl, rfl⟩ -
        have hul := takesB_length (B.take j) (x := X) (by omega)
        obtain ⟨u, hu⟩ : ∃ u, takesB X (B.take j) = u := ⟨_, rfl⟩
        rw [hu] at hul ⊢
        refine AW.post ?_
        refine ev_sound tokT (keep := fun _ => true) ?_
        (conv => whnf); (cases hjt : (decide ((↑j : Int) < (↑ln : Int)) : Bool) <;> (try simp only [beq_iff_eq, beq_eq_false_iff_ne, ne_eq, decide_eq_true_eq, decide_eq_false_iff_not, bne_iff_ne, bne_eq_false_iff_eq, Bool.not_eq_true, Bool.not_eq_false, gt_iff_lt, ge_iff_le] at hjt) <;> (try (exfalso; omega)))
        case' false =>
          (conv => whnf)
          rw [IntWalk.i64_in _ (by omega)]
          have : j = ln := by omega
          subst this
          rw [show B.take j = B by rw [← hBl, List.take_length]] at hu
          (refine Turned.of [0, 1, 2, 3] [(0, .sl 0 0 k cap), (2, .ptr 2 0 0 0), (3, .ptr 3 0 0 0), (9, .sl 0 0 k cap), (10, .int .i64 k), (11, .int .i64 ((i + 1 : Nat) : Int))] [⟨1, true, none, .row els⟩, ⟨1, true, none, .ints .u8 xs⟩, ⟨32, false, none, .var [.ints .u8 32 (List.replicate 32 0)]⟩, sumE u ((A.length : Int) + j)] (by rfl) (by rfl) (by rfl) (by (repeat' (first | exact True.intro | exact rfl | refine And.intro ?_ ?_ | exact RowFix.ren (by assumption) rfl | exact RowFix.inn (by assumption) rfl | (simp [AV.ren, AV.rens, AObj.ren, Ent.ren, AV.inn, AV.inns, AObj.inn, *]; done)))) (by (repeat' (first | exact True.intro | exact rfl | refine And.intro ?_ ?_ | exact RowFix.ren (by assumption) rfl | exact RowFix.inn (by assumption) rfl | (simp [AV.ren, AV.rens, AObj.ren, Ent.ren, AV.inn, AV.inns, AObj.inn, *]; done)))) ?_)
          refine ⟨k - (i + 1), by omega, i + 1, rfl, by omega, rfl, ?_⟩
          rw [hfin, hu, hlen]
        have hj' : j < ln := by omega
        have hg := hBg j hj'
        ((conv => whnf); (repeat (((refine And.intro (by first | assumption | omega) ?_); (conv => whnf)))))
        rw [show off + (j : Int).toNat = off + j by simp, hg]
        refine AC.frame (take_ok u _ _ (by omega)) [3] (by (repeat' (first | exact True.intro | exact rfl | refine And.intro ?_ ?_))) (by rfl) (by (repeat' (first | exact True.intro | refine And.intro ?_ ?_ | (simp [AV.ren, AV.rens, AObj.ren, Ent.ren, AV.inn, AV.inns, AObj.inn, *]; done)))) (by rfl) ?_
        rintro r0 hp0 ⟨rfl, rfl⟩
        (conv => whnf)
        rw [IntWalk.i64_in _ (by omega)]
        (refine Turned.of [0, 1, 2, 3] [(0, .sl 0 0 k cap), (2, .ptr 2 0 0 0), (3, .ptr 3 0 0 0), (9, .sl 0 0 k cap), (10, .int .i64 k), (11, .int .i64 i), (25, .sl 1 off ln cp), (26, .int .i64 ln), (27, .int .i64 ((j + 1 : Nat) : Int))] [⟨1, true, none, .row els⟩, ⟨1, true, none, .ints .u8 xs⟩, ⟨32, false, none, .var [.ints .u8 32 (List.replicate 32 0)]⟩, sumE (takeB u (B.getD j 0)) ((A.length : Int) + ln)] (by rfl) (by rfl) (by rfl) (by (repeat' (first | exact True.intro | exact rfl | refine And.intro ?_ ?_ | exact RowFix.ren (by assumption) rfl | exact RowFix.inn (by assumption) rfl | (simp [AV.ren, AV.rens, AObj.ren, Ent.ren, AV.inn, AV.inns, AObj.inn, *]; done)))) (by (repeat' (first | exact True.intro | exact rfl | refine And.intro ?_ ?_ | exact RowFix.ren (by assumption) rfl | exact RowFix.inn (by assumption) rfl | (simp [AV.ren, AV.rens, AObj.ren, Ent.ren, AV.inn, AV.inns, AObj.inn, *]; done)))) ?_)
        refine ⟨ln - (j + 1), by omega, j + 1, rfl, by omega, rfl, ?_⟩
        rw [takeSnoc _ _ (by omega), takesB_append, hu]; rfl
  · rintro fr hp ⟨rfl, rfl⟩
    obtain ⟨L, hL⟩ : ∃ L, catP xs ps = L := ⟨_, rfl⟩
    rw [hL] at hl ⊢
    have hLl := takesB_length L (x := (ivS, [])) (by simp)
    simp only [List.length_nil, Nat.zero_add] at hLl
    have hsha : outS (takesB (takesB (ivS, []) L) (endL (takesB (ivS, []) L).2.length (8 * (L.length : Int)))).1 = shaL L := by
      unfold shaL
      rw [takesB_append]
      congr 3
      unfold endL padL
      rw [hLl]
    refine ev_sound tokT (keep := fun _ => true) ?_
    (conv => whnf)
    refine AC.frame (end_ok (takesB (ivS, []) L) (L.length : Int) (by omega) (by omega) (by omega)) [3] (by (repeat' (first | exact True.intro | exact rfl | refine And.intro ?_ ?_))) (by rfl) (by (repeat' (first | exact True.intro | refine And.intro ?_ ?_ | (simp [AV.ren, AV.rens, AObj.ren, Ent.ren, AV.inn, AV.inns, AObj.inn, *]; done)))) (by rfl) ?_
    rintro r0 hp0 ⟨rfl, rfl⟩
    rw [hsha]
    (conv => whnf)
    (refine Left.of [0, 1] (.agg [.ints .u8 32 (shaL L)]) [⟨1, true, none, .row els⟩, ⟨1, true, none, .ints .u8 xs⟩] (by rfl) (by rfl) (by rfl) (by (repeat' (first | exact True.intro | exact rfl | refine And.intro ?_ ?_ | exact RowFix.ren (by assumption) rfl | exact RowFix.inn (by assumption) rfl))) (by rfl) (by (repeat' (first | exact True.intro | exact rfl | refine And.intro ?_ ?_ | exact RowFix.ren (by assumption) rfl | exact RowFix.inn (by assumption) rfl))) ?_)
    exact ⟨rfl, rfl⟩
end Go.Aw
end
