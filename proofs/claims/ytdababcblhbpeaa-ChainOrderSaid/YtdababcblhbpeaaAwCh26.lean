/-
  AwCh26: hashes of headers that stand on one another: four chains, told by their bytes. Own work.
-/
import Derived.Test.YtdababcblhbpeaaAwPk5
import Derived.Test.YtdababcblhbpeaaAwCh19
set_option linter.unusedVariables false
set_option linter.unusedSimpArgs false
set_option maxRecDepth 20000
open Go.Proofs
namespace Go.Aw

def idI (I : List (List Nat)) (j : Nat) : List Int := (I.getD j []).map Int.ofNat
/-- the hashes of headers that stand on one another, from the genesis on -/
structure IdsOk (I : List (List Nat)) (n : Nat) (wk : Nat → Int) : Prop where
  len : I.length = n + 1
  zero : hidOf gen0 = idI I 0
  next : ∀ j, j < n → hidOf ⟨idI I j, List.replicate 32 0, wk j, (j : Int)⟩ = idI I (j + 1)
  inj : ∀ i j, i ≤ n → j ≤ n → idI I i = idI I j → i = j
instance (l : List Nat) : Decidable (byteOk l) := by unfold byteOk; infer_instance
def bytesOk (I : List (List Nat)) : Bool := I.all fun l => l.all fun b => Nat.ble b 255
theorem bytesOk_ok {I : List (List Nat)} (h : bytesOk I = true) : ∀ x ∈ I, byteOk x := by
  intro x hx b hb
  unfold bytesOk at h
  rw [List.all_eq_true] at h
  have := h x hx
  rw [List.all_eq_true] at this
  exact Nat.le_of_ble_eq_true (this b hb)
/-- do no two begin with one word? -/
def apartL : List Nat → Bool
  | [] => true
  | x :: r => (r.all fun y => !Nat.beq x y) && apartL r
theorem apartL_ok : ∀ {l : List Nat}, apartL l = true → l.Nodup
  | [], _ => List.nodup_nil
  | x :: r, h => by
    simp only [apartL, Bool.and_eq_true, List.all_eq_true] at h
    refine List.nodup_cons.2 ⟨fun hx => ?_, apartL_ok h.2⟩
    have := h.1 x hx
    simp at this
theorem ids_of {x0 : List Nat} {l : List (List Nat)} {n : Nat} {w : Nat → List Nat} {wk : Nat → Int} (hw : ∀ j, j ≤ 40 → byteOk (w j) ∧ putL (wk j) = (w j).map Int.ofNat ∧ okN (wk j)) (hl : l.length = n) (hn : n ≤ 40)
    (hb : bytesOk (x0 :: l) = true) (h0 : x0.map Int.ofNat = A0) (hc : chkC w l 0 x0 = true) (hd : apartL ((x0 :: l).map fwN) = true) : IdsOk (x0 :: l) n wk := by
  have hB := bytesOk_ok hb
  refine ⟨by simp [hl], by rw [hid_0, ← h0]; rfl, fun j hj => ?_, fun i j hi hj q => ?_⟩
  · have := chkC_ok hw l 0 x0 (by omega) (hB x0 (by simp)) (fun x hx => hB x (List.mem_cons_of_mem _ hx)) hc j (by omega)
    simp only [Nat.zero_add] at this
    exact this
  · have hN := apartL_ok hd
    have e : (x0 :: l).getD i [] = (x0 :: l).getD j [] := by
      unfold idI at q
      exact List.map_inj_right (fun a b hab => Int.ofNat.inj hab) |>.1 q
    have li : i < (x0 :: l).length := by simp; omega
    have lj : j < (x0 :: l).length := by simp; omega
    simp only [List.getD_eq_getElem?_getD, List.getElem?_eq_getElem li, List.getElem?_eq_getElem lj, Option.getD_some] at e
    have li' : i < ((x0 :: l).map fwN).length := by simpa using li
    have lj' : j < ((x0 :: l).map fwN).length := by simpa using lj
    have e3 : ((x0 :: l).map fwN)[i] = ((x0 :: l).map fwN)[j] := by rw [List.getElem_map, List.getElem_map, e]
    exact (List.getElem_inj hN).1 e3

/-! ### headers of moulds -/
theorem castL_at : ∀ (l : List Md) (i : Nat) (out : List Hdr) (j : Nat) (m : Md), l[j]? = some m → (castL l i out)[out.length + j]? = some (castH ((castL l i out).take (out.length + j)) (i + j) m)
  | [], i, out, j, m, h => by simp at h
  | a :: r, i, out, 0, m, h => by
    simp at h
    subst h
    have hp : ∀ j, j < (out ++ [castH out i a]).length → (castL r (i + 1) (out ++ [castH out i a]))[j]? = (out ++ [castH out i a])[j]? := by
      have key : ∀ (l : List Md) (i : Nat) (out : List Hdr) (j : Nat), j < out.length → (castL l i out)[j]? = out[j]? := by
        intro l
        induction l with
        | nil => intro i out j hj; rfl
        | cons b r ih =>
          intro i out j hj
          show (castL r (i + 1) (out ++ [castH out i b]))[j]? = _
          rw [ih _ _ j (by simp; omega), List.getElem?_append_left hj]
      exact key r _ _
    show (castL r (i + 1) (out ++ [castH out i a]))[out.length + 0]? = some (castH ((castL r (i + 1) (out ++ [castH out i a])).take (out.length + 0)) (i + 0) a)
    rw [hp _ (by simp)]
    have e : (castL r (i + 1) (out ++ [castH out i a])).take out.length = out := by
      apply List.ext_getElem?
      intro j
      rw [List.getElem?_take]
      split
      · rename_i hj
        rw [hp j (by simp; omega), List.getElem?_append_left hj]
      · rename_i hj
        exact (List.getElem?_eq_none (by omega)).symm
    simp [e]
  | a :: r, i, out, j + 1, m, h => by
    simp only [List.getElem?_cons_succ] at h
    have := castL_at r (i + 1) (out ++ [castH out i a]) j m h
    simp only [List.length_append, List.length_cons, List.length_nil] at this
    show (castL r (i + 1) (out ++ [castH out i a]))[out.length + (j + 1)]? = some (castH ((castL r (i + 1) (out ++ [castH out i a])).take (out.length + (j + 1))) (i + (j + 1)) m)
    rw [show out.length + (j + 1) = out.length + (0 + 1) + j by omega, show i + (j + 1) = i + 1 + j by omega]
    exact this
/-- a header on one that was made before -/
theorem castA_at {l : List Md} {j u : Nat} {wk : Int} (h : l[j]? = some ⟨(u : Int), wk⟩) (hu : u ≤ j) : (castA l)[j + 1]? = some ⟨hidOf ((castA l).getD u default), List.replicate 32 0, wk, (j : Int)⟩ := by
  have hj : j < l.length := (List.getElem?_eq_some_iff.1 h).1
  have hlen := (castA_props l).2.1
  have h1 := castL_at l 0 [gen0] j _ h
  have e : (castL l 0 [gen0]) = castA l := rfl
  rw [e] at h1
  simp only [List.length_cons, List.length_nil, Nat.zero_add] at h1
  rw [show j + 1 = 1 + j by omega, h1]
  unfold castH
  have hT : ((castA l).take (1 + j)).length = 1 + j := by rw [List.length_take, hlen]; omega
  have hb : inB ((castA l).take (1 + j)) (u : Int) = true := by unfold inB; rw [hT]; exact decide_eq_true (by omega)
  simp only [hb, pickL, Int.toNat_natCast]
  have e2 : ((castA l).take (1 + j)).getD u default = (castA l).getD u default := by
    simp only [List.getD_eq_getElem?_getD, List.getElem?_take, if_pos (show u < 1 + j by omega)]
  rw [e2]
/-- headers that stand on one another -/
theorem cast_line {I : List (List Nat)} {n : Nat} {wk : Nat → Int} (hI : IdsOk I n wk) {l : List Md} : ∀ (j : Nat), j ≤ n → (∀ i, i < j → l[i]? = some ⟨(i : Int), wk i⟩) →
    hidOf ((castA l).getD j default) = idI I j ∧ (0 < j → (castA l)[j]? = some ⟨idI I (j - 1), List.replicate 32 0, wk (j - 1), ((j - 1 : Nat) : Int)⟩)
  | 0, _, _ => by
    have h := (castA_props l).2.2
    refine ⟨?_, fun q => absurd q (by omega)⟩
    simp only [List.getD_eq_getElem?_getD, h, Option.getD_some]
    exact hI.zero
  | j + 1, hj, h => by
    obtain ⟨h1, _⟩ := cast_line hI j (by omega) fun i hi => h i (by omega)
    have h2 := castA_at (h j (by omega)) (Nat.le_refl j)
    rw [h1] at h2
    refine ⟨?_, fun _ => h2⟩
    simp only [List.getD_eq_getElem?_getD, h2, Option.getD_some]
    exact hI.next j (by omega)

def idsO : List (List Nat) := [[110, 51, 161, 142, 53, 233, 207, 160, 53, 209, 116, 18, 171, 60, 63, 178, 125, 41, 117, 162, 239, 226, 18, 37, 219, 139, 241, 64, 24, 147, 189, 149],
  [125, 115, 112, 77, 108, 171, 241, 106, 221, 65, 94, 1, 110, 29, 1, 186, 10, 77, 5, 41, 251, 231, 27, 125, 83, 185, 32, 50, 34, 106, 22, 233],
  [186, 17, 96, 132, 243, 248, 164, 148, 234, 127, 250, 32, 133, 107, 2, 150, 16, 139, 130, 157, 41, 90, 221, 191, 161, 56, 67, 157, 97, 153, 221, 254],
  [242, 107, 37, 32, 222, 107, 132, 54, 129, 244, 17, 198, 109, 44, 133, 143, 123, 22, 63, 17, 98, 237, 252, 21, 81, 202, 240, 0, 135, 190, 160, 140],
  [254, 132, 157, 40, 67, 96, 82, 199, 253, 171, 89, 153, 48, 60, 150, 247, 241, 136, 28, 139, 81, 52, 250, 199, 153, 99, 57, 241, 216, 149, 96, 32],
  [177, 166, 178, 210, 106, 72, 219, 10, 221, 94, 18, 186, 101, 215, 36, 164, 199, 156, 229, 103, 164, 212, 179, 94, 40, 103, 61, 44, 53, 6, 35, 154],
  [243, 241, 207, 0, 93, 74, 151, 202, 108, 19, 203, 176, 70, 71, 170, 113, 207, 100, 182, 143, 169, 21, 180, 64, 32, 216, 42, 193, 214, 132, 47, 193],
  [42, 165, 117, 96, 108, 87, 218, 19, 181, 20, 234, 200, 245, 154, 174, 53, 171, 73, 127, 109, 113, 49, 3, 187, 131, 159, 253, 124, 118, 22, 93, 233],
  [128, 191, 209, 214, 176, 89, 222, 76, 62, 18, 5, 129, 99, 215, 126, 239, 188, 122, 80, 172, 215, 5, 232, 253, 159, 212, 91, 218, 30, 173, 151, 216],
  [182, 209, 164, 89, 181, 50, 226, 237, 26, 112, 156, 240, 218, 91, 85, 111, 165, 122, 235, 226, 165, 23, 74, 236, 118, 15, 102, 80, 24, 65, 125, 107],
  [77, 189, 113, 3, 139, 52, 75, 78, 127, 88, 129, 131, 35, 243, 247, 154, 212, 7, 193, 58, 141, 89, 95, 22, 83, 126, 33, 42, 22, 175, 75, 104],
  [87, 204, 57, 199, 194, 163, 184, 106, 110, 152, 249, 32, 104, 117, 150, 17, 129, 8, 233, 48, 59, 242, 171, 39, 66, 211, 78, 93, 169, 243, 118, 227],
  [150, 116, 180, 229, 160, 251, 169, 246, 137, 79, 157, 126, 214, 143, 2, 137, 170, 43, 60, 37, 47, 11, 74, 133, 251, 242, 151, 26, 95, 169, 114, 203],
  [27, 83, 118, 25, 8, 229, 251, 3, 77, 41, 225, 4, 203, 98, 103, 252, 62, 214, 200, 40, 162, 128, 174, 150, 97, 62, 17, 187, 39, 195, 78, 75],
  [231, 125, 191, 150, 20, 219, 181, 237, 225, 148, 239, 123, 6, 90, 117, 39, 241, 41, 253, 67, 114, 233, 196, 36, 163, 91, 14, 195, 186, 3, 141, 26],
  [185, 85, 183, 117, 80, 125, 44, 117, 91, 147, 151, 24, 114, 67, 98, 1, 153, 246, 230, 188, 53, 64, 115, 58, 181, 16, 162, 234, 117, 177, 109, 134],
  [214, 237, 89, 101, 143, 206, 37, 228, 144, 218, 25, 96, 25, 83, 134, 160, 1, 100, 196, 99, 152, 79, 137, 232, 182, 139, 90, 186, 188, 69, 37, 8],
  [9, 26, 183, 42, 158, 73, 62, 209, 126, 67, 7, 154, 249, 204, 51, 166, 71, 89, 54, 31, 99, 138, 37, 45, 227, 77, 63, 95, 10, 123, 30, 156],
  [114, 170, 62, 121, 196, 98, 220, 145, 165, 193, 74, 162, 80, 212, 83, 52, 217, 50, 149, 118, 70, 197, 179, 194, 232, 35, 77, 254, 84, 169, 110, 167],
  [189, 69, 206, 177, 194, 153, 217, 84, 68, 17, 129, 252, 178, 109, 22, 150, 181, 142, 42, 178, 246, 187, 24, 204, 222, 40, 137, 27, 249, 136, 197, 48],
  [200, 113, 227, 57, 98, 181, 52, 153, 162, 152, 190, 99, 73, 1, 29, 65, 26, 37, 174, 58, 207, 16, 85, 199, 184, 130, 211, 78, 2, 128, 56, 99]]
set_option maxRecDepth 100000 in
theorem idsO_ok : IdsOk idsO 20 (fun _ => 1048576) := by
  have hw : ∀ j, j ≤ 40 → byteOk ((fun _ => [254, 0, 0, 16, 0]) j) ∧ putL ((fun _ => 1048576 : Nat → Int) j) = ((fun _ => [254, 0, 0, 16, 0]) j).map Int.ofNat ∧ okN ((fun _ => 1048576 : Nat → Int) j) := fun j _ => ⟨by simp [byteOk], rfl, by simp [okN]⟩
  exact ids_of (w := fun _ => [254, 0, 0, 16, 0]) (wk := fun _ => 1048576) hw (by decide +kernel) (by omega) (by decide +kernel) (by decide +kernel) (by decide +kernel) (by decide +kernel)
end Go.Aw
