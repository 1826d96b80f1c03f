/-
  AwCh19: what the document fixes of a chain: the plain part. Own work.
-/
import Derived.Test.YtdababcblhbpeaaAwCh18
set_option linter.unusedVariables false
set_option linter.unusedSimpArgs false
set_option maxRecDepth 20000
open Go.Proofs
namespace Go.Aw

def A0 : List Int := [110, 51, 161, 142, 53, 233, 207, 160, 53, 209, 116, 18, 171, 60, 63, 178, 125, 41, 117, 162, 239, 226, 18, 37, 219, 139, 241, 64, 24, 147, 189, 149]
def A1 : List Int := [189, 197, 251, 212, 156, 134, 240, 36, 100, 222, 254, 201, 124, 238, 17, 102, 172, 123, 232, 128, 136, 86, 98, 184, 251, 215, 174, 110, 200, 75, 63, 70]
def A2 : List Int := [195, 216, 179, 41, 51, 75, 193, 214, 189, 2, 32, 89, 78, 127, 98, 219, 80, 212, 246, 16, 96, 91, 41, 142, 126, 217, 168, 147, 67, 77, 109, 165]
def A3 : List Int := [209, 160, 1, 112, 125, 197, 15, 156, 12, 211, 229, 165, 51, 226, 196, 208, 150, 137, 31, 205, 91, 58, 106, 78, 93, 85, 88, 190, 215, 92, 4, 137]
def G1 : Hdr := ⟨A0, List.replicate 32 0, 1, 0⟩
def G2 : Hdr := ⟨A0, List.replicate 32 0, 1, 1⟩
def G3 : Hdr := ⟨nameL 2, List.replicate 32 0, 1, 2⟩
theorem hid_0 : hidOf gen0 = A0 := by decide +kernel
theorem hid_1 : hidOf G1 = A1 := by decide +kernel
theorem hid_2 : hidOf G2 = A2 := by decide +kernel
theorem hid_3 : hidOf G3 = A3 := by decide +kernel
theorem cast_awake : castA [⟨0, 1⟩, ⟨0, 1⟩, ⟨9, 1⟩] = [gen0, G1, G2, G3] := by
  have h1 : castH [gen0] 0 ⟨0, 1⟩ = G1 := by
    have hb : inB [gen0] 0 = true := by unfold inB; decide
    unfold castH pickL
    simp only [hb]
    rw [show [gen0].getD (0 : Int).toNat default = gen0 from rfl, hid_0]
    rfl
  have h2 : castH [gen0, G1] 1 ⟨0, 1⟩ = G2 := by
    have hb : inB [gen0, G1] 0 = true := by unfold inB; decide
    unfold castH pickL
    simp only [hb]
    rw [show [gen0, G1].getD (0 : Int).toNat default = gen0 from rfl, hid_0]
    rfl
  have h3 : castH [gen0, G1, G2] 2 ⟨9, 1⟩ = G3 := by
    have hb : inB [gen0, G1, G2] 9 = false := by unfold inB; decide
    unfold castH pickL
    simp only [hb]
    rfl
  show castL [⟨0, 1⟩, ⟨0, 1⟩, ⟨9, 1⟩] 0 [gen0] = _
  simp only [castL, List.cons_append, List.nil_append]
  rw [h1, h2, h3]
/-- the same, the hash told -/
def addX (c : Ch) (id : List Int) (h : Hdr) : Ch × List Ev × Int := match c.halted with
  | true => (c, [], 9)
  | false => match mayB h with
    | false => (c, [], 1)
    | true => match waitsB c id || (findK id c.known).isSome with
      | true => (c, [], 6)
      | false => match findK h.prev c.known with
        | none => match decide ((c.orphans.length : Int) ≥ c.most) with
          | true => (c, [], 4)
          | false => ({ c with orphans := c.orphans ++ [(id, h)] }, [], 0)
        | some p => match deepB c p.height with
          | true => (c, [], 8)
          | false => (match (adoptC (takesC c id h)).stops with
              | true => movesC (adoptC (takesC c id h))
              | false => forgetsC (movesC (adoptC (takesC c id h))), movesE (adoptC (takesC c id h)), movesN (adoptC (takesC c id h)))
theorem addC_eq (c : Ch) (h : Hdr) : addC c h = addX c (hidOf h) h := rfl
def C0 : Ch := ⟨5, 0, [(0, A0, ⟨List.replicate 32 0, 0, 1, 0⟩)], 1, [A0], [], 0, false⟩
def C1 : Ch := ⟨5, 0, [(0, A0, ⟨List.replicate 32 0, 0, 1, 0⟩), (1, A1, ⟨A0, 1, 2, 1⟩)], 2, [A0, A1], [], 1, false⟩
def C2 : Ch := ⟨5, 0, [(0, A0, ⟨List.replicate 32 0, 0, 1, 0⟩), (1, A1, ⟨A0, 1, 2, 1⟩), (2, A2, ⟨A0, 1, 2, 2⟩)], 3, [A0, A1], [], 2, false⟩
theorem new_awake : newC gen0 5 0 = C0 := by unfold newC; rw [hid_0]; rfl
theorem add_1 : addC C0 G1 = (C1, [⟨1, A1, 1⟩], 0) := by rw [addC_eq, hid_1]; kernel_rfl
theorem add_2 : addC C1 G2 = (C2, [], 0) := by rw [addC_eq, hid_2]; kernel_rfl
theorem add_3 : addC C2 G3 = (C2, [], 4) := by rw [addC_eq, hid_3]; kernel_rfl
theorem add_4 : addC C2 G1 = (C2, [], 6) := by rw [addC_eq, hid_1]; kernel_rfl

/-! ### a new chain -/
theorem new_inv (h : Hdr) (k most : Int) (hw : h.wf) (hb : newB h k most = true) : KOk (newC h k most) 0 ∧ Tree (newC h k most) := by
  unfold newB at hb
  rw [Bool.and_eq_true, decide_eq_true_eq] at hb
  obtain ⟨hm, hk⟩ := hb
  have hmay := mayB_true.1 hm
  have hwk : 1 ≤ h.work ∧ h.work ≤ 1099511627776 := by unfold Hdr.may at hmay; omega
  have hfk : findK (hidOf h) (newC h k most).known = some ⟨h.prev, 0, h.work, 0⟩ := by
    show (if hidOf h = hidOf h then _ else _) = _
    rw [if_pos rfl]
  refine ⟨⟨by show 0 ≤ k ∧ k ≤ 1000000; omega, by simp [newC], ?_, ?_, ?_, ?_, ?_, by simp [newC], by simp [newC], by simp [newC]⟩, ⟨by simp [newC], by simp [newC], by simp [newC], by simp [newC], by simp [newC], by simp [newC], by simp [newC], ?_, by simp [newC], by simp [newC], by simp [newC], by simp [newC]⟩⟩
  · simp [newC, hid_len]
  · simp [newC, hid_len]
  · simp [newC, hw.prev]
  · simp [newC]
  · simp [newC]; omega
  · intro i id hi
    have : i = 0 ∧ id = hidOf h := by
      cases i with
      | zero => simp [newC] at hi; exact ⟨rfl, hi.symm⟩
      | succ i => simp [newC] at hi
    obtain ⟨rfl, rfl⟩ := this
    exact ⟨_, hfk, rfl, fun h => absurd h (by omega)⟩
end Go.Aw
