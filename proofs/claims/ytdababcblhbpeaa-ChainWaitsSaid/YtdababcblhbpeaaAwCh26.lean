/-
  AwCh26: hashes of headers that stand on one another: four chains, told by their bytes. Own work.
-/
import Derived.Test.YtdababcblhbpeaaAwPk5
import Derived.Test.YtdababcblhbpeaaAwCh19
set_option linter.unusedVariables false
set_option linter.unusedSimpArgs false
set_option maxRecDepth 20000
open Go.Proofs
namespace Go.Aw

def idI (I : List (List Nat)) (j : Nat) : List Int := (I.getD j []).map Int.ofNat
/-- the hashes of headers that stand on one another, from the genesis on -/
structure IdsOk (I : List (List Nat)) (n : Nat) (wk : Nat → Int) : Prop where
  len : I.length = n + 1
  zero : hidOf gen0 = idI I 0
  next : ∀ j, j < n → hidOf ⟨idI I j, List.replicate 32 0, wk j, (j : Int)⟩ = idI I (j + 1)
  inj : ∀ i j, i ≤ n → j ≤ n → idI I i = idI I j → i = j
instance (l : List Nat) : Decidable (byteOk l) := by unfold byteOk; infer_instance
def bytesOk (I : List (List Nat)) : Bool := I.all fun l => l.all fun b => Nat.ble b 255
theorem bytesOk_ok {I : List (List Nat)} (h : bytesOk I = true) : ∀ x ∈ I, byteOk x := by
  intro x hx b hb
  unfold bytesOk at h
  rw [List.all_eq_true] at h
  have := h x hx
  rw [List.all_eq_true] at this
  exact Nat.le_of_ble_eq_true (this b hb)
/-- do no two begin with one word? -/
def apartL : List Nat → Bool
  | [] => true
  | x :: r => (r.all fun y => !Nat.beq x y) && apartL r
theorem apartL_ok : ∀ {l : List Nat}, apartL l = true → l.Nodup
  | [], _ => List.nodup_nil
  | x :: r, h => by
    simp only [apartL, Bool.and_eq_true, List.all_eq_true] at h
    refine List.nodup_cons.2 ⟨fun hx => ?_, apartL_ok h.2⟩
    have := h.1 x hx
    simp at this
theorem ids_of {x0 : List Nat} {l : List (List Nat)} {n : Nat} {w : Nat → List Nat} {wk : Nat → Int} (hw : ∀ j, j ≤ 40 → byteOk (w j) ∧ putL (wk j) = (w j).map Int.ofNat ∧ okN (wk j)) (hl : l.length = n) (hn : n ≤ 40)
    (hb : bytesOk (x0 :: l) = true) (h0 : x0.map Int.ofNat = A0) (hc : chkC w l 0 x0 = true) (hd : apartL ((x0 :: l).map fwN) = true) : IdsOk (x0 :: l) n wk := by
  have hB := bytesOk_ok hb
  refine ⟨by simp [hl], by rw [hid_0, ← h0]; rfl, fun j hj => ?_, fun i j hi hj q => ?_⟩
  · have := chkC_ok hw l 0 x0 (by omega) (hB x0 (by simp)) (fun x hx => hB x (List.mem_cons_of_mem _ hx)) hc j (by omega)
    simp only [Nat.zero_add] at this
    exact this
  · have hN := apartL_ok hd
    have e : (x0 :: l).getD i [] = (x0 :: l).getD j [] := by
      unfold idI at q
      exact List.map_inj_right (fun a b hab => Int.ofNat.inj hab) |>.1 q
    have li : i < (x0 :: l).length := by simp; omega
    have lj : j < (x0 :: l).length := by simp; omega
    simp only [List.getD_eq_getElem?_getD, List.getElem?_eq_getElem li, List.getElem?_eq_getElem lj, Option.getD_some] at e
    have li' : i < ((x0 :: l).map fwN).length := by simpa using li
    have lj' : j < ((x0 :: l).map fwN).length := by simpa using lj
    have e3 : ((x0 :: l).map fwN)[i] = ((x0 :: l).map fwN)[j] := by rw [List.getElem_map, List.getElem_map, e]
    exact (List.getElem_inj hN).1 e3

/-! ### headers of moulds -/
theorem castL_at : ∀ (l : List Md) (i : Nat) (out : List Hdr) (j : Nat) (m : Md), l[j]? = some m → (castL l i out)[out.length + j]? = some (castH ((castL l i out).take (out.length + j)) (i + j) m)
  | [], i, out, j, m, h => by simp at h
  | a :: r, i, out, 0, m, h => by
    simp at h
    subst h
    have hp : ∀ j, j < (out ++ [castH out i a]).length → (castL r (i + 1) (out ++ [castH out i a]))[j]? = (out ++ [castH out i a])[j]? := by
      have key : ∀ (l : List Md) (i : Nat) (out : List Hdr) (j : Nat), j < out.length → (castL l i out)[j]? = out[j]? := by
        intro l
        induction l with
        | nil => intro i out j hj; rfl
        | cons b r ih =>
          intro i out j hj
          show (castL r (i + 1) (out ++ [castH out i b]))[j]? = _
          rw [ih _ _ j (by simp; omega), List.getElem?_append_left hj]
      exact key r _ _
    show (castL r (i + 1) (out ++ [castH out i a]))[out.length + 0]? = some (castH ((castL r (i + 1) (out ++ [castH out i a])).take (out.length + 0)) (i + 0) a)
    rw [hp _ (by simp)]
    have e : (castL r (i + 1) (out ++ [castH out i a])).take out.length = out := by
      apply List.ext_getElem?
      intro j
      rw [List.getElem?_take]
      split
      · rename_i hj
        rw [hp j (by simp; omega), List.getElem?_append_left hj]
      · rename_i hj
        exact (List.getElem?_eq_none (by omega)).symm
    simp [e]
  | a :: r, i, out, j + 1, m, h => by
    simp only [List.getElem?_cons_succ] at h
    have := castL_at r (i + 1) (out ++ [castH out i a]) j m h
    simp only [List.length_append, List.length_cons, List.length_nil] at this
    show (castL r (i + 1) (out ++ [castH out i a]))[out.length + (j + 1)]? = some (castH ((castL r (i + 1) (out ++ [castH out i a])).take (out.length + (j + 1))) (i + (j + 1)) m)
    rw [show out.length + (j + 1) = out.length + (0 + 1) + j by omega, show i + (j + 1) = i + 1 + j by omega]
    exact this
/-- a header on one that was made before -/
theorem castA_at {l : List Md} {j u : Nat} {wk : Int} (h : l[j]? = some ⟨(u : Int), wk⟩) (hu : u ≤ j) : (castA l)[j + 1]? = some ⟨hidOf ((castA l).getD u default), List.replicate 32 0, wk, (j : Int)⟩ := by
  have hj : j < l.length := (List.getElem?_eq_some_iff.1 h).1
  have hlen := (castA_props l).2.1
  have h1 := castL_at l 0 [gen0] j _ h
  have e : (castL l 0 [gen0]) = castA l := rfl
  rw [e] at h1
  simp only [List.length_cons, List.length_nil, Nat.zero_add] at h1
  rw [show j + 1 = 1 + j by omega, h1]
  unfold castH
  have hT : ((castA l).take (1 + j)).length = 1 + j := by rw [List.length_take, hlen]; omega
  have hb : inB ((castA l).take (1 + j)) (u : Int) = true := by unfold inB; rw [hT]; exact decide_eq_true (by omega)
  simp only [hb, pickL, Int.toNat_natCast]
  have e2 : ((castA l).take (1 + j)).getD u default = (castA l).getD u default := by
    simp only [List.getD_eq_getElem?_getD, List.getElem?_take, if_pos (show u < 1 + j by omega)]
  rw [e2]
/-- headers that stand on one another -/
theorem cast_line {I : List (List Nat)} {n : Nat} {wk : Nat → Int} (hI : IdsOk I n wk) {l : List Md} : ∀ (j : Nat), j ≤ n → (∀ i, i < j → l[i]? = some ⟨(i : Int), wk i⟩) →
    hidOf ((castA l).getD j default) = idI I j ∧ (0 < j → (castA l)[j]? = some ⟨idI I (j - 1), List.replicate 32 0, wk (j - 1), ((j - 1 : Nat) : Int)⟩)
  | 0, _, _ => by
    have h := (castA_props l).2.2
    refine ⟨?_, fun q => absurd q (by omega)⟩
    simp only [List.getD_eq_getElem?_getD, h, Option.getD_some]
    exact hI.zero
  | j + 1, hj, h => by
    obtain ⟨h1, _⟩ := cast_line hI j (by omega) fun i hi => h i (by omega)
    have h2 := castA_at (h j (by omega)) (Nat.le_refl j)
    rw [h1] at h2
    refine ⟨?_, fun _ => h2⟩
    simp only [List.getD_eq_getElem?_getD, h2, Option.getD_some]
    exact hI.next j (by omega)

def idsW : List (List Nat) := [[110, 51, 161, 142, 53, 233, 207, 160, 53, 209, 116, 18, 171, 60, 63, 178, 125, 41, 117, 162, 239, 226, 18, 37, 219, 139, 241, 64, 24, 147, 189, 149],
  [189, 197, 251, 212, 156, 134, 240, 36, 100, 222, 254, 201, 124, 238, 17, 102, 172, 123, 232, 128, 136, 86, 98, 184, 251, 215, 174, 110, 200, 75, 63, 70],
  [66, 228, 220, 28, 201, 237, 215, 244, 25, 146, 93, 2, 171, 154, 90, 249, 206, 59, 182, 23, 60, 57, 224, 44, 161, 179, 29, 83, 24, 33, 191, 154],
  [15, 64, 118, 101, 220, 117, 193, 33, 7, 170, 179, 9, 239, 247, 248, 180, 32, 111, 163, 191, 47, 165, 141, 175, 167, 99, 100, 141, 255, 204, 4, 9],
  [25, 124, 53, 238, 105, 28, 235, 122, 212, 9, 165, 72, 214, 177, 198, 160, 223, 106, 72, 180, 143, 80, 119, 174, 217, 71, 104, 13, 121, 115, 249, 219],
  [237, 197, 173, 169, 165, 157, 150, 178, 191, 161, 78, 62, 77, 162, 240, 250, 213, 67, 36, 250, 134, 128, 145, 216, 38, 228, 65, 245, 133, 218, 173, 165],
  [67, 251, 94, 183, 31, 124, 54, 220, 62, 142, 145, 158, 99, 191, 103, 245, 196, 24, 95, 137, 162, 201, 215, 117, 147, 54, 229, 78, 187, 167, 241, 15],
  [189, 66, 12, 97, 52, 4, 120, 149, 215, 96, 244, 200, 11, 219, 77, 18, 242, 158, 169, 151, 58, 37, 167, 114, 160, 187, 96, 141, 140, 151, 176, 145],
  [234, 63, 125, 35, 195, 93, 45, 16, 221, 103, 208, 180, 146, 7, 246, 70, 20, 136, 93, 229, 74, 212, 49, 80, 44, 140, 107, 109, 30, 12, 6, 16],
  [206, 219, 29, 19, 177, 238, 150, 235, 173, 132, 53, 68, 7, 78, 6, 21, 29, 145, 189, 230, 114, 170, 49, 238, 141, 37, 175, 7, 108, 172, 165, 116],
  [77, 117, 229, 230, 50, 168, 192, 176, 208, 79, 248, 33, 146, 17, 184, 72, 35, 48, 133, 76, 158, 99, 206, 231, 37, 51, 202, 163, 36, 192, 94, 62],
  [149, 178, 129, 148, 132, 208, 204, 103, 158, 58, 242, 122, 252, 141, 52, 182, 131, 182, 120, 109, 149, 41, 222, 48, 222, 170, 65, 186, 9, 144, 144, 69],
  [139, 179, 7, 25, 209, 247, 94, 31, 92, 60, 160, 118, 149, 216, 204, 221, 81, 87, 131, 168, 107, 35, 58, 83, 107, 178, 249, 188, 59, 202, 95, 133],
  [252, 103, 25, 108, 218, 141, 104, 108, 136, 34, 100, 33, 208, 67, 40, 154, 27, 85, 130, 134, 92, 86, 236, 151, 172, 23, 233, 202, 195, 165, 204, 6],
  [159, 220, 129, 104, 13, 164, 5, 177, 109, 229, 222, 199, 110, 152, 50, 123, 125, 47, 234, 216, 118, 169, 140, 147, 53, 180, 251, 150, 43, 121, 52, 100],
  [121, 33, 14, 15, 112, 227, 53, 13, 175, 123, 216, 86, 26, 229, 218, 11, 231, 145, 34, 34, 150, 24, 116, 12, 54, 61, 80, 136, 75, 210, 222, 66],
  [191, 163, 178, 110, 125, 28, 22, 226, 64, 159, 133, 88, 24, 53, 11, 37, 24, 243, 169, 208, 190, 184, 54, 172, 37, 220, 28, 22, 40, 57, 81, 3],
  [101, 80, 60, 150, 106, 99, 142, 210, 185, 131, 44, 174, 131, 186, 108, 52, 17, 169, 249, 125, 167, 196, 92, 173, 192, 235, 67, 136, 244, 109, 159, 105],
  [70, 19, 150, 2, 166, 37, 176, 167, 36, 1, 237, 95, 136, 104, 238, 215, 211, 129, 28, 124, 80, 23, 227, 17, 142, 74, 249, 218, 69, 102, 43, 28],
  [74, 205, 253, 170, 11, 187, 163, 188, 187, 19, 85, 65, 105, 225, 10, 251, 114, 81, 142, 168, 49, 222, 226, 65, 166, 125, 124, 232, 85, 28, 198, 157],
  [157, 14, 123, 225, 203, 26, 16, 189, 251, 242, 196, 204, 243, 141, 152, 121, 179, 28, 197, 176, 133, 64, 143, 96, 3, 100, 252, 188, 121, 236, 235, 186]]
set_option maxRecDepth 100000 in
theorem idsW_ok : IdsOk idsW 20 (fun j => ((1 + j : Nat) : Int)) := by
  have hw : ∀ j, j ≤ 40 → byteOk ((fun j => [1 + j]) j) ∧ putL ((fun j => ((1 + j : Nat) : Int) : Nat → Int) j) = ((fun j => [1 + j]) j).map Int.ofNat ∧ okN ((fun j => ((1 + j : Nat) : Int) : Nat → Int) j) := fun j hj => ⟨fun b hb => by simp at hb; omega, putL_small (show ((1 + j : Nat) : Int) < 253 by omega), by simp only [okN]; omega⟩
  exact ids_of (w := fun j => [1 + j]) (wk := fun j => ((1 + j : Nat) : Int)) hw (by decide +kernel) (by omega) (by decide +kernel) (by decide +kernel) (by decide +kernel) (by decide +kernel)
end Go.Aw
