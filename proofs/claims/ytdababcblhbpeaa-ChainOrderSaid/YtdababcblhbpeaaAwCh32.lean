/-
  AwCh32: hashes of headers that stand on a chain's: no two are one. Own work.
-/
import Derived.Test.YtdababcblhbpeaaAwCh27
set_option linter.unusedVariables false
set_option linter.unusedSimpArgs false
set_option maxRecDepth 20000
open Go.Proofs
namespace Go.Aw

/-- is none of these in one lane with it? -/
noncomputable def noneX (n x : Nat) (acc : List Nat) : Bool := @List.rec Nat (fun _ => Bool) true (fun y _ ih => and (nzP n (Nat.xor x y)) ih) acc
theorem noneX_ok {n x : Nat} : ∀ {acc : List Nat}, noneX n x acc = true → ∀ y ∈ acc, nzP n (Nat.xor x y) = true
  | [], _, y, hy => by simp at hy
  | z :: r, h, y, hy => by
    have q : noneX n x (z :: r) = and (nzP n (Nat.xor x z)) (noneX n x r) := rfl
    rw [q, Bool.and_eq_true] at h
    rcases List.mem_cons.1 hy with g | g
    · rw [g]; exact h.1
    · exact noneX_ok h.2 y g
/-- the headers with one more work than 'i', on each of these: their first words; what is done with them behind -/
noncomputable def oneRow (n i : Nat) (K : List Nat → Bool) (acc : List Nat) (fs : List (List Nat)) : List Nat → Bool :=
  @List.rec (List Nat) (fun _ => List Nat → Bool) (fun cur => K cur)
    (fun p _ ih cur => sha2P n (headP n p [1 + i] (cntN n (1 + i))) fun s => force s.a fun x => and (noneX n x acc) (ih (x :: cur))) fs
noncomputable def allRows (n : Nat) (fs : List (List Nat)) (r : Nat) : Nat → List Nat → Bool :=
  @Nat.rec (fun _ => Nat → List Nat → Bool) (fun _ _ => true) (fun _ ih i acc => oneRow n i (fun acc' => ih (Nat.succ i) acc') acc fs acc) r
/-- the first words of such headers' hashes -/
def hW (n i : Nat) (p : List Nat) : Nat := pk n fun l => (shS (shaL (headL ⟨p.map Int.ofNat, List.replicate 32 0, ((1 + i : Nat) : Int), ((l + (1 + i) : Nat) : Int)⟩))).a
theorem oneRow_cons {n i : Nat} {K : List Nat → Bool} {acc : List Nat} {p : List Nat} {r : List (List Nat)} {cur : List Nat} (hp : byteOk p) (hi : n + (1 + i) ≤ 252) :
    oneRow n i K acc (p :: r) cur = and (noneX n (hW n i p) acc) (oneRow n i K acc r (hW n i p :: cur)) := by
  have q : oneRow n i K acc (p :: r) cur = sha2P n (headP n p [1 + i] (cntN n (1 + i))) fun s => force s.a fun x => and (noneX n x acc) (oneRow n i K acc r (x :: cur)) := rfl
  rw [q, sha2P_eq (headP_ok (n := n) (a := 1 + i) (w := [1 + i]) (wk := ((1 + i : Nat) : Int)) hp (fun b hb => by simp at hb; omega) (putL_small (by omega)) (by omega)), force_eq]
  rfl
theorem oneRow_ok {n i : Nat} {K : List Nat → Bool} {acc : List Nat} (hi : n + (1 + i) ≤ 252) : ∀ (fs : List (List Nat)) (cur : List Nat), (∀ p ∈ fs, byteOk p) → oneRow n i K acc fs cur = true →
    (∀ p ∈ fs, ∀ y ∈ acc, nzP n (Nat.xor (hW n i p) y) = true) ∧ ∃ cur', K cur' = true ∧ (∀ y ∈ cur, y ∈ cur') ∧ ∀ p ∈ fs, hW n i p ∈ cur'
  | [], cur, _, h => ⟨fun p hp => by simp at hp, cur, h, fun _ q => q, fun p hp => by simp at hp⟩
  | p :: r, cur, hb, h => by
    rw [oneRow_cons (hb p (by simp)) hi, Bool.and_eq_true] at h
    obtain ⟨h1, cur', h2, h3, h4⟩ := oneRow_ok hi r _ (fun q hq => hb q (List.mem_cons_of_mem _ hq)) h.2
    refine ⟨fun q hq => ?_, cur', h2, fun y hy => h3 y (List.mem_cons_of_mem _ hy), fun q hq => ?_⟩
    · rcases List.mem_cons.1 hq with g | g
      · rw [g]; exact noneX_ok h.1
      · exact h1 q g
    · rcases List.mem_cons.1 hq with g | g
      · rw [g]; exact h3 _ (by simp)
      · exact h4 q g
theorem allRows_ok {n : Nat} {fs : List (List Nat)} (hb : ∀ p ∈ fs, byteOk p) : ∀ (r i : Nat) (acc : List Nat), n + (i + r) ≤ 252 → allRows n fs r i acc = true →
    ∀ k, i ≤ k → k < i + r → ∀ p ∈ fs, (∀ y ∈ acc, nzP n (Nat.xor (hW n k p) y) = true) ∧ ∀ k', i ≤ k' → k' < k → ∀ p' ∈ fs, nzP n (Nat.xor (hW n k p) (hW n k' p')) = true
  | 0, i, acc, _, _, k, h1, h2, _, _ => absurd h2 (by omega)
  | r + 1, i, acc, hn, h, k, h1, h2, p, hp => by
    have q : allRows n fs (r + 1) i acc = oneRow n i (fun acc' => allRows n fs r (i + 1) acc') acc fs acc := rfl
    rw [q] at h
    obtain ⟨g1, cur', g2, g3, g4⟩ := oneRow_ok (by omega) fs acc hb h
    rcases Nat.lt_or_ge i k with g | g
    · obtain ⟨a1, a2⟩ := allRows_ok hb r (i + 1) cur' (by omega) g2 k (by omega) (by omega) p hp
      refine ⟨fun y hy => a1 y (g3 y hy), fun k' b1 b2 p' hp' => ?_⟩
      rcases Nat.lt_or_ge i k' with g5 | g5
      · exact a2 k' (by omega) b2 p' hp'
      · have : k' = i := by omega
        subst this
        exact a1 _ (g4 p' hp')
    · have : k = i := by omega
      subst this
      exact ⟨g1 p hp, fun k' b1 b2 => absurd b2 (by omega)⟩
def idsO20 : List (List Nat) := idsO.take 20
set_option maxRecDepth 100000 in
theorem rowsO : allRows 20 idsO20 15 0 (idsO.map fun x => Nat.mul (fwN x) (onesN 20)) = true := by decide +kernel
/-- the hash of the header with work 1 + i on the one of place f, where the chain has n -/
def fkO (i f n : Nat) : Hdr := ⟨idI idsO f, List.replicate 32 0, ((1 + i : Nat) : Int), ((n + i : Nat) : Int)⟩
theorem fkO_out {i f n : Nat} (hi : i < 15) (hn : n ≤ 20) : hidOf (fkO i f n) = outS (shS (shaL (headL (fkO i f n)))) := by
  rw [hid_ok (by unfold fkO okN; simp only []; omega) (by unfold fkO okN; simp only []; omega), shS_out (shaL _)]
theorem fkO_lane {i f n : Nat} (hn : 1 ≤ n ∧ n ≤ 20) : fkO i f n = ⟨(idsO.getD f []).map Int.ofNat, List.replicate 32 0, ((1 + i : Nat) : Int), ((n - 1 + (1 + i) : Nat) : Int)⟩ := by
  unfold fkO idI
  rw [show n - 1 + (1 + i) = n + i by omega]
theorem mem20 {f : Nat} (hf : f < 20) : idsO.getD f [] ∈ idsO20 := by
  have hl := idsO_ok.len
  have e : idsO.getD f [] = idsO20.getD f [] := by
    unfold idsO20
    simp only [List.getD_eq_getElem?_getD, List.getElem?_take, if_pos hf]
  rw [e]
  have hl2 : idsO20.length = 20 := by unfold idsO20; rw [List.length_take, hl]; rfl
  simp only [List.getD_eq_getElem?_getD, List.getElem?_eq_getElem (show f < idsO20.length by omega), Option.getD_some]
  exact List.getElem_mem _
theorem bytes20 : ∀ p ∈ idsO20, byteOk p := fun p hp => bytesOk_ok (I := idsO) (by decide +kernel) p (List.mem_of_mem_take hp)
theorem fkO_main {i f n j : Nat} (hi : i < 15) (hf : f < 20) (hn : 1 ≤ n ∧ n ≤ 20) (hj : j ≤ 20) : hidOf (fkO i f n) ≠ idI idsO j := by
  intro q
  have hB := bytesOk_ok (I := idsO) (by decide +kernel)
  have hm := idI_mem idsO_ok hj
  have h1 := (allRows_ok bytes20 15 0 _ (by omega) rowsO i (by omega) (by omega) _ (mem20 hf)).1 (Nat.mul (fwN (idsO.getD j [])) (onesN 20)) (List.mem_map.2 ⟨_, hm, rfl⟩)
  unfold hW at h1
  have h2 := nz_const (fw_lt (hB _ hm)) h1 (n - 1) (by omega)
  rw [fkO_out hi hn.2] at q
  have h3 := fw_out q
  rw [fkO_lane hn] at h3
  exact h2 h3
theorem fkO_apart {i f i' f' n : Nat} (hi : i < 15) (hi' : i' < i) (hf : f < 20) (hf' : f' < 20) (hn : 1 ≤ n ∧ n ≤ 20) : hidOf (fkO i f n) ≠ hidOf (fkO i' f' n) := by
  intro q
  have h1 := (allRows_ok bytes20 15 0 _ (by omega) rowsO i (by omega) (by omega) _ (mem20 hf)).2 i' (by omega) hi' _ (mem20 hf')
  unfold hW at h1
  have h2 := nz_apart h1 (n - 1) (by omega)
  rw [fkO_out hi hn.2, fkO_out (by omega) hn.2] at q
  have h3 := outS_a q
  rw [fkO_lane hn, fkO_lane hn] at h3
  exact h2 h3
end Go.Aw
