/-
  AwPk5: hashes of headers side by side: the sum of the sum. Own work.
-/
import Derived.Test.YtdababcblhbpeaaAwPk4
import Derived.Test.YtdababcblhbpeaaAwCh18
set_option linter.unusedVariables false
set_option linter.unusedSimpArgs false
set_option maxRecDepth 20000
open Go.Proofs
namespace Go.Aw

/-- one byte of each lane's word -/
def byteP (n x k : Nat) : Nat := Nat.land (Nat.shiftRight x k) (Nat.mul 255 (onesN n))
theorem byteP_pk (n k : Nat) (hk : k ≤ 32) (f : Nat → W32) : byteP n (pk n f) k = pk n fun i => (f i >>> k) &&& 255#32 := by
  have e1 : 255 * onesN n = pk n fun _ => 255#32 := by rw [pk_const]; rfl
  have e2 : mskN n = pk n fun _ => 4294967295#32 := by rw [pk_const]; rfl
  have e3 : 255 * onesN n = mskN n &&& (255 * onesN n) := by
    rw [e1, e2, pk_and]
    exact pk_congr fun i _ => by decide
  show (pk n f >>> k) &&& (255 * onesN n) = _
  rw [e3, ← Nat.and_assoc, pk_shr k hk, e1, pk_and]
theorem bW_byte (y : W32) : bW (wI y % 256) = y &&& 255#32 := by
  apply BitVec.eq_of_toNat_eq
  have hy := y.isLt
  have h1 : wI y % 256 = ((y.toNat % 256 : Nat) : Int) := by unfold wI; omega
  rw [h1, (bW_nat (by omega)).1, Int.toNat_natCast, BitVec.toNat_and]
  show _ = y.toNat &&& 255
  have := Nat.and_two_pow_sub_one_eq_mod y.toNat 8
  simpa using this.symm
def wordP (n x : Nat) : List Nat := [byteP n x 24, byteP n x 16, byteP n x 8, byteP n x 0]
theorem PkB.word (n : Nat) (f : Nat → W32) : PkB n (wordP n (pk n f)) (fun l => wordB (f l)) := by
  refine ⟨fun l hl => rfl, fun p hp => ?_, fun l hl => wordB_bytes _⟩
  have e0 : ∀ y : W32, y >>> 0 = y := fun y => by simp
  simp only [wordP, List.length_cons, List.length_nil] at hp
  simp only [wordP, wordB]
  match p, hp with
  | 0, _ => rw [show ([byteP n (pk n f) 24, byteP n (pk n f) 16, byteP n (pk n f) 8, byteP n (pk n f) 0] : List Nat).getD 0 0 = byteP n (pk n f) 24 from rfl, byteP_pk n 24 (by omega)]; exact pk_congr fun i _ => (bW_byte _).symm
  | 1, _ => rw [show ([byteP n (pk n f) 24, byteP n (pk n f) 16, byteP n (pk n f) 8, byteP n (pk n f) 0] : List Nat).getD 1 0 = byteP n (pk n f) 16 from rfl, byteP_pk n 16 (by omega)]; exact pk_congr fun i _ => (bW_byte _).symm
  | 2, _ => rw [show ([byteP n (pk n f) 24, byteP n (pk n f) 16, byteP n (pk n f) 8, byteP n (pk n f) 0] : List Nat).getD 2 0 = byteP n (pk n f) 8 from rfl, byteP_pk n 8 (by omega)]; exact pk_congr fun i _ => (bW_byte _).symm
  | 3, _ =>
    rw [show ([byteP n (pk n f) 24, byteP n (pk n f) 16, byteP n (pk n f) 8, byteP n (pk n f) 0] : List Nat).getD 3 0 = byteP n (pk n f) 0 from rfl, byteP_pk n 0 (by omega)]
    exact pk_congr fun i _ => by rw [e0]; exact (bW_byte _).symm
def outP (n : Nat) (s : PS) : List Nat := wordP n s.a ++ wordP n s.b ++ wordP n s.c ++ wordP n s.d ++ wordP n s.e ++ wordP n s.f ++ wordP n s.g ++ wordP n s.h
theorem PkB.out (n : Nat) (s : Nat → St) : PkB n (outP n (pkS n s)) (fun l => outS (s l)) := by
  unfold outP pkS outS
  exact (((((((PkB.word n _).app (PkB.word n _)).app (PkB.word n _)).app (PkB.word n _)).app (PkB.word n _)).app (PkB.word n _)).app (PkB.word n _)).app (PkB.word n _)
noncomputable def forceS {α : Type} (s : PS) (k : PS → α) : α :=
  @PS.rec (fun _ => α) (fun a b c d e f g h => force a fun a => force b fun b => force c fun c => force d fun d => force e fun e => force f fun f => force g fun g => force h fun h => k ⟨a, b, c, d, e, f, g, h⟩) s
theorem forceS_eq {α : Type} (s : PS) (k : PS → α) : forceS s k = k s := by
  obtain ⟨a, b, c, d, e, f, g, h⟩ := s
  have q : forceS ⟨a, b, c, d, e, f, g, h⟩ k = force a fun a => force b fun b => force c fun c => force d fun d => force e fun e => force f fun f => force g fun g => force h fun h => k ⟨a, b, c, d, e, f, g, h⟩ := rfl
  rw [q]
  simp only [force_eq]
/-- the state behind a text and its end -/
def shS (m : List Int) : St := (takesB (ivS, []) (m ++ padL m.length)).1
theorem shS_out (m : List Int) : shaL m = outS (shS m) := rfl
noncomputable def sha1P {α : Type} (n : Nat) (B : List Nat) (K : PS → α) : α :=
  forceS (sumP n ((B.length + 72) / 64) (B ++ (padN B.length).map (· * onesN n))) K
theorem sha1P_eq {α : Type} {n : Nat} {B : List Nat} {m : Nat → List Int} (h : PkB n B m) (K : PS → α) : sha1P n B K = K (pkS n fun l => shS (m l)) := by
  unfold sha1P
  rw [forceS_eq]
  congr 1
  have h2 := PkB.same (n := n) (padN B.length) (padN_bytes _)
  have h3 := h.app h2
  rw [sumP_pk h3 (by rw [List.length_append, List.length_map, padN_len])]
  refine pkS_congr fun l hl => ?_
  unfold shS
  rw [h.len l hl, padN_eq]
noncomputable def sha2P {α : Type} (n : Nat) (B : List Nat) (K : PS → α) : α := sha1P n B fun s => sha1P n (outP n s) K
theorem sha2P_eq {α : Type} {n : Nat} {B : List Nat} {m : Nat → List Int} (h : PkB n B m) (K : PS → α) : sha2P n B K = K (pkS n fun l => shS (shaL (m l))) := by
  unfold sha2P
  rw [sha1P_eq h, sha1P_eq (PkB.out n _)]
  rfl
/-- a header's bytes: the nonces are the lanes' own -/
def headP (n : Nat) (prev w : List Nat) (nonce : Nat) : List Nat := prev.map (· * onesN n) ++ (List.replicate 32 0).map (· * onesN n) ++ w.map (· * onesN n) ++ [nonce]
theorem putL_small {x : Int} (h : x < 253) : putL x = [x] := by unfold putL; rw [if_pos h]
def byteOk (l : List Nat) : Prop := ∀ b ∈ l, b ≤ 255
theorem headP_ok {n a : Nat} {prev w : List Nat} {wk : Int} (hp : byteOk prev) (hw : byteOk w) (hwk : putL wk = w.map Int.ofNat) (ha : n + a ≤ 253) :
    PkB n (headP n prev w (cntN n a)) (fun l => headL ⟨prev.map Int.ofNat, List.replicate 32 0, wk, ((l + a : Nat) : Int)⟩) := by
  have h1 := PkB.same (n := n) prev hp
  have h2 := PkB.same (n := n) (List.replicate 32 0) (by simp)
  have h3 := PkB.same (n := n) w hw
  have h4 := PkB.rep (n := n) 1 (cntN n a) (fun l => ((l + a : Nat) : Int)) (cntN_eq n a (by omega)) (fun l hl => by omega)
  have h5 := ((h1.app h2).app h3).app h4
  have e : ∀ l, l < n → prev.map Int.ofNat ++ (List.replicate 32 0).map Int.ofNat ++ w.map Int.ofNat ++ List.replicate 1 ((l + a : Nat) : Int) = headL ⟨prev.map Int.ofNat, List.replicate 32 0, wk, ((l + a : Nat) : Int)⟩ := by
    intro l hl
    unfold headL
    simp only [hwk]
    rw [putL_small (by omega)]
    rfl
  refine ⟨fun l hl => ?_, fun p hp => ?_, fun l hl => ?_⟩
  · rw [← e l hl]; exact h5.len l hl
  · have := h5.get p hp
    unfold headP
    rw [show [cntN n a] = List.replicate 1 (cntN n a) from rfl, this]
    exact pk_congr fun i hi => by rw [e i hi]
  · rw [← e l hl]; exact h5.byte l hl
theorem PkB.one {B : List Nat} {m : Nat → List Int} (h : PkB 1 B m) : m 0 = B.map Int.ofNat := by
  apply List.ext_getElem
  · rw [List.length_map]; exact h.len 0 (by omega)
  · intro p h1 h2
    have hp : p < B.length := by simpa using h2
    have h3 := h.get p hp
    simp only [List.getD_eq_getElem?_getD, List.getElem?_eq_getElem hp, Option.getD_some, pk, List.getElem?_eq_getElem h1] at h3
    have h4 := h.byte 0 (by omega) _ (List.getElem_mem h1)
    rw [List.getElem_map]
    have h5 := (bW_nat h4).1
    show _ = ((B[p] : Nat) : Int)
    omega
/-- a hash, in the kernel -/
noncomputable def idN (prev w : List Nat) (nonce : Nat) : List Nat := sha2P 1 (headP 1 prev w (cntN 1 nonce)) fun s => outP 1 s
theorem idN_ok {prev w : List Nat} {wk : Int} {a : Nat} (hp : byteOk prev) (hw : byteOk w) (hwk : putL wk = w.map Int.ofNat) (hk : okN wk) (ha : a ≤ 252) :
    hidOf ⟨prev.map Int.ofNat, List.replicate 32 0, wk, (a : Int)⟩ = (idN prev w a).map Int.ofNat := by
  have h1 := headP_ok (n := 1) (a := a) hp hw hwk (by omega)
  rw [hid_ok hk (by show okN (a : Int); unfold okN; omega)]
  unfold idN
  rw [sha2P_eq h1, ← PkB.one (PkB.out 1 _), shS_out]
  simp only [Nat.zero_add]
def eqL (a b : List Nat) : Bool := decide (a = b)
/-- are these the hashes of headers that stand on one another? -/
noncomputable def chkC (w : Nat → List Nat) (l : List (List Nat)) : Nat → List Nat → Bool :=
  @List.rec (List Nat) (fun _ => Nat → List Nat → Bool) (fun _ _ => true) (fun x _ ih j prev => and (eqL (idN prev (w j) j) x) (ih (Nat.succ j) x)) l
theorem chkC_ok {w : Nat → List Nat} {wk : Nat → Int} (hw : ∀ j, j ≤ 40 → byteOk (w j) ∧ putL (wk j) = (w j).map Int.ofNat ∧ okN (wk j)) : ∀ (l : List (List Nat)) (j : Nat) (prev : List Nat), j + l.length ≤ 40 → byteOk prev → (∀ x ∈ l, byteOk x) → chkC w l j prev = true →
    ∀ i, i < l.length → hidOf ⟨((prev :: l).getD i []).map Int.ofNat, List.replicate 32 0, wk (j + i), ((j + i : Nat) : Int)⟩ = (l.getD i []).map Int.ofNat
  | [], _, _, _, _, _, _, i, hi => by simp at hi
  | x :: r, j, prev, hl, hp, hb, h, i, hi => by
    have q : chkC w (x :: r) j prev = and (eqL (idN prev (w j) j) x) (chkC w r (j + 1) x) := rfl
    rw [q, Bool.and_eq_true] at h
    simp only [List.length_cons] at hl hi
    cases i with
    | zero =>
      obtain ⟨h1, h2, h3⟩ := hw j (by omega)
      have := idN_ok (a := j) hp h1 h2 h3 (by omega)
      simp only [List.getD_cons_zero, Nat.add_zero]
      rw [this, of_decide_eq_true h.1]
    | succ i =>
      have := chkC_ok hw r (j + 1) x (by omega) (hb x (by simp)) (fun y hy => hb y (List.mem_cons_of_mem _ hy)) h.2 i (by omega)
      simp only [List.getD_cons_succ]
      rw [show j + (i + 1) = j + 1 + i by omega]
      exact this

/-! ### hashes that are none of some -/
/-- the first word of a hash -/
def fwN (l : List Nat) : Nat := joinP (l.getD 0 0) (l.getD 1 0) (l.getD 2 0) (l.getD 3 0)
end Go.Aw
