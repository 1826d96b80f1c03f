/-
  AwPk4: texts of one byte, again and again: each byte is a lane; their sums, and those of one byte more. Own work.
-/
import Derived.Test.YtdababcblhbpeaaAwPk3
set_option linter.unusedVariables false
set_option linter.unusedSimpArgs false
set_option maxRecDepth 20000
namespace Go.Aw
/-- the lanes' own numbers: 0, 1, 2, .. -/
def cntN : Nat → Nat → Nat
  | 0, _ => 0
  | n + 1, k => k + 18446744073709551616 * cntN n (k + 1)
theorem cntN_eq : ∀ (n k : Nat), n + k ≤ 256 → cntN n k = pk n fun i => bW (((i + k : Nat) : Int))
  | 0, k, _ => rfl
  | n + 1, k, h => by
    simp only [cntN, pk]
    rw [cntN_eq n (k + 1) (by omega)]
    have e : (bW (((0 + k : Nat) : Int))).toNat = k := by
      have := (bW_nat (c := ((0 + k : Nat) : Int)) (by omega)).1
      rw [this]; omega
    rw [e]
    have e2 : (pk n fun i => bW ((i + (k + 1) : Nat) : Int)) = pk n fun i => bW ((i + 1 + k : Nat) : Int) := pk_congr fun i _ => by rw [show i + (k + 1) = i + 1 + k by omega]
    rw [e2]
def be8N (n : Nat) : List Nat := [n / 72057594037927936 % 256, n / 281474976710656 % 256, n / 1099511627776 % 256, n / 4294967296 % 256, n / 16777216 % 256, n / 65536 % 256, n / 256 % 256, n % 256]
def padN (n : Nat) : List Nat := 128 :: (List.replicate ((119 - n % 64) % 64) 0 ++ be8N (8 * n))
theorem padN_eq (n : Nat) : padL n = (padN n).map Int.ofNat := by
  have e : be8 (8 * (n : Int)) = (be8N (8 * n)).map Int.ofNat := by
    simp only [be8, be8N, List.map_cons, List.map_nil, Int.ofNat_eq_natCast]
    congr 1 <;> (try congr 1) <;> (try congr 1) <;> (try congr 1) <;> (try congr 1) <;> (try congr 1) <;> (try congr 1) <;> (try congr 1) <;> omega
  simp only [padL, padN, List.map_cons, List.map_append, List.map_replicate, e]
  rfl
theorem padN_bytes (n : Nat) : ∀ b ∈ padN n, b ≤ 255 := by
  intro b hb
  simp only [padN, be8N, List.mem_cons, List.mem_append, List.mem_replicate, List.not_mem_nil, or_false] at hb
  omega
theorem padN_len (n : Nat) : n + (padN n).length = 64 * ((n + 72) / 64) := by
  simp only [padN, be8N, List.length_cons, List.length_append, List.length_replicate, List.length_nil]
  omega
noncomputable def fillP (n : Nat) : PS := sumP 256 ((n + 72) / 64) (List.replicate n (cntN 256 0) ++ (padN n).map (· * onesN 256))
/-- the state behind such a text -/
def fillS (n c : Nat) : St := (takesB (ivS, []) (List.replicate n (c : Int) ++ padL n)).1
theorem fillP_eq (n : Nat) : fillP n = pkS 256 (fillS n) := by
  unfold fillP fillS
  rw [sumP_pk (m := fun c => List.replicate n (c : Int) ++ padL n)]
  · have h1 := PkB.rep (n := 256) n (cntN 256 0) (fun c => (c : Int)) (by rw [cntN_eq 256 0 (by omega)]; rfl) (fun l hl => by omega)
    have h2 := PkB.same (n := 256) (padN n) (padN_bytes n)
    rw [← padN_eq] at h2
    exact h1.app h2
  · rw [List.length_append, List.length_replicate, List.length_map, padN_len]

/-- is each lane above 0? -/
def nzP (n x : Nat) : Bool := Nat.beq (Nat.land (Nat.add x (mskN n)) (Nat.mul 4294967296 (onesN n))) (Nat.mul 4294967296 (onesN n))
theorem nz_sound : ∀ (n : Nat) (f : Nat → W32), (pk n f + mskN n) &&& (4294967296 * onesN n) = 4294967296 * onesN n → ∀ i, i < n → f i ≠ 0
  | 0, f, _, i, hi => by omega
  | n + 1, f, h, i, hi => by
    have h1 := (f 0).isLt
    rw [msk_succ] at h
    simp only [pk, onesN, two_pow64] at h
    rw [show (f 0).toNat + 2 ^ 64 * pk n (fun i => f (i + 1)) + (4294967295 + 2 ^ 64 * mskN n) = ((f 0).toNat + 4294967295) + 2 ^ 64 * (pk n (fun i => f (i + 1)) + mskN n) by omega,
      show 4294967296 * (1 + 2 ^ 64 * onesN n) = 4294967296 + 2 ^ 64 * (4294967296 * onesN n) by omega] at h
    rw [join_and (by omega) (by decide)] at h
    have h2 : ((f 0).toNat + 4294967295) &&& 4294967296 < 2 ^ 64 := Nat.and_lt_two_pow _ (by decide)
    have h3 : (pk n (fun i => f (i + 1)) + mskN n) &&& (4294967296 * onesN n) = 4294967296 * onesN n := by omega
    have h4 : ((f 0).toNat + 4294967295) &&& 4294967296 = 4294967296 := by omega
    cases i with
    | zero =>
      intro g
      rw [g] at h4
      exact absurd h4 (by decide)
    | succ i => exact nz_sound n (fun i => f (i + 1)) h3 i (by omega)
theorem nzP_sound {n : Nat} {f : Nat → W32} (h : nzP n (pk n f) = true) : ∀ i, i < n → f i ≠ 0 := nz_sound n f (Nat.eq_of_beq_eq_true h)
theorem nz_apart {n : Nat} {f g : Nat → W32} (h : nzP n (Nat.xor (pk n f) (pk n g)) = true) : ∀ i, i < n → f i ≠ g i := by
  intro i hi e
  have h2 : Nat.xor (pk n f) (pk n g) = pk n fun i => f i ^^^ g i := pk_xor n f g
  rw [h2] at h
  exact nzP_sound h i hi (by rw [e]; simp)

noncomputable def runP (r : Nat) : Nat → Nat → Bool :=
  @Nat.rec (fun _ => Nat → Nat → Bool) (fun _ _ => true) (fun _ ih n prev => force (fillP (Nat.succ n)).a fun x => and (nzP 256 (Nat.xor prev x)) (ih (Nat.succ n) x)) r
noncomputable def runsP (r n : Nat) : Bool := force (fillP n).a fun x => runP r n x
theorem runP_succ (r n prev : Nat) : runP (r + 1) n prev = and (nzP 256 (Nat.xor prev (fillP (n + 1)).a)) (runP r (n + 1) (fillP (n + 1)).a) := by
  have q : runP (r + 1) n prev = force (fillP (Nat.succ n)).a fun x => and (nzP 256 (Nat.xor prev x)) (runP r (Nat.succ n) x) := rfl
  rw [q, force_eq]
theorem runP_sound : ∀ (r n : Nat), runP r n (fillP n).a = true → ∀ j, j < r → ∀ c, c < 256 → (fillS (n + j) c).a ≠ (fillS (n + j + 1) c).a
  | 0, n, _, j, hj => by omega
  | r + 1, n, h, j, hj => by
    rw [runP_succ, Bool.and_eq_true] at h
    cases j with
    | zero =>
      have h1 := h.1
      rw [fillP_eq, fillP_eq] at h1
      exact nz_apart h1
    | succ j =>
      have := runP_sound r (n + 1) h.2 j (by omega)
      rw [show n + (j + 1) = n + 1 + j by omega]
      exact this
theorem runsP_sound {r n : Nat} (h : runsP r n = true) {m : Nat} (h1 : n ≤ m) (h2 : m < n + r) {c : Nat} (hc : c < 256) : (fillS m c).a ≠ (fillS (m + 1) c).a := by
  unfold runsP at h
  rw [force_eq] at h
  have := runP_sound r n h (m - n) (by omega) c hc
  rw [show n + (m - n) = m by omega] at this
  exact this
set_option maxRecDepth 100000 in
theorem run0 : runsP 53 0 = true := by decide +kernel
set_option maxRecDepth 100000 in
theorem run1 : runsP 53 53 = true := by decide +kernel
set_option maxRecDepth 100000 in
theorem run2 : runsP 53 106 = true := by decide +kernel
set_option maxRecDepth 100000 in
theorem run3 : runsP 53 159 = true := by decide +kernel
set_option maxRecDepth 100000 in
theorem run4 : runsP 53 212 = true := by decide +kernel

theorem wordB_inj {x y : W32} (h : wordB x = wordB y) : x = y := by
  simp only [wordB, List.cons.injEq, and_true] at h
  obtain ⟨h1, h2, h3, h4⟩ := h
  have hx := x.isLt
  have hy := y.isLt
  unfold wI at h1 h2 h3 h4
  simp only [BitVec.toNat_ushiftRight, Nat.shiftRight_eq_div_pow] at h1 h2 h3
  apply BitVec.eq_of_toNat_eq
  omega
theorem outS_a {s t : St} (h : outS s = outS t) : s.a = t.a := by
  have h1 := congrArg (List.take 4) h
  simp only [outS, List.append_assoc] at h1
  rw [List.take_append_of_le_length (by simp [wordB]), List.take_append_of_le_length (by simp [wordB])] at h1
  exact wordB_inj (by simpa [wordB] using h1)
/-- no two neighbouring lengths have one sum -/
theorem sha_apart {n c : Nat} (hn : n ≤ 260) (hc : c < 256) : shaL (List.replicate n (c : Int)) ≠ shaL (List.replicate (n + 1) (c : Int)) := by
  intro h
  have h1 : (fillS n c).a = (fillS (n + 1) c).a := by
    unfold shaL at h
    rw [List.length_replicate, List.length_replicate] at h
    exact outS_a h
  revert h1
  rcases Nat.lt_or_ge n 53 with g | g
  · exact runsP_sound run0 (by omega) (by omega) hc
  rcases Nat.lt_or_ge n 106 with g | g
  · exact runsP_sound run1 (by omega) (by omega) hc
  rcases Nat.lt_or_ge n 159 with g | g
  · exact runsP_sound run2 (by omega) (by omega) hc
  rcases Nat.lt_or_ge n 212 with g | g
  · exact runsP_sound run3 (by omega) (by omega) hc
  · exact runsP_sound run4 (by omega) (by omega) hc
end Go.Aw
