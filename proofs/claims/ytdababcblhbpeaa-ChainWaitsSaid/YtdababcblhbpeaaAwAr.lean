/-
  AwAr: an array of truths, told as a row of single cells. Own work.
-/
import Derived.Test.YtdababcblhbpeaaM10
set_option linter.unusedVariables false
set_option linter.unusedSimpArgs false
namespace Go.Aw
open Go
def rowB (l : List Bool) : List (List AV) := l.map fun x => [AV.bool x]
theorem rowB_rens (σ : Nat → Nat) (l : List Bool) : (rowB l).map (AV.rens σ) = rowB l := by
  simp [rowB, AV.rens, AV.ren, Function.comp_def]
attribute [simp] rowB_rens
@[simp] theorem all_rowB (n : Nat) (l : List Bool) : (∀ x, x ∈ rowB l → AV.inns n x) ↔ True := by
  refine iff_true_intro fun x hx => ?_
  obtain ⟨y, _, rfl⟩ := List.mem_map.1 hx
  simp [AV.inns, AV.inn]
@[simp] theorem rowB_length (l : List Bool) : (rowB l).length = l.length := by simp [rowB]
theorem rowB_set (l : List Bool) (k : Nat) (b : Bool) : (rowB l).set k [AV.bool b] = rowB (l.set k b) := by simp [rowB, List.map_set]
theorem rowB_at (l : List Bool) {k : Nat} (h : k < l.length) : (rowB l)[k]? = some [.bool (l.getD k false)] := by
  simp [rowB, List.getElem?_eq_getElem h]
theorem CAt_bools {ρ : Nat → Loc} {n : Nat} {f : Nat → Option Value} : ∀ (l : List Bool) (off : Nat), CAt ρ n f (l.map AV.bool) off → ∀ (i : Nat) v, l[i]? = some v → ∃ c, f (off + i) = some c ∧ c.oneCell' = true ∧ c = .bool v
  | [], _, _, i, v, h => by simp at h
  | x :: r, off, h, i, v, hi => by
    simp only [List.map_cons, CAt] at h
    obtain ⟨⟨c, h1, h2, h3⟩, h4⟩ := h
    cases i with
    | zero =>
      simp at hi
      subst hi
      simp only [VR] at h3
      exact ⟨c, h1, h2, h3⟩
    | succ i =>
      simp only [List.getElem?_cons_succ] at hi
      have := CAt_bools r (off + 1) h4 i v hi
      rw [show off + (i + 1) = off + 1 + i by omega]
      exact this
theorem asz_bools : ∀ (l : List Bool), asz (l.map AV.bool) = l.length
  | [] => rfl
  | x :: r => by simp only [List.map_cons, asz, AV.sz, asz_bools r, List.length_cons]; omega
/-- slots that hold a block's place, told as another's -/
def ptrTo (b b' : Nat) : Fr → Fr
  | [] => []
  | (u, v) :: r => (u, match v with | .ptr x 0 0 0 => (match Nat.beq x b with | true => .ptr b' 0 0 0 | false => v) | v => v) :: ptrTo b b' r
theorem ptrTo_find {b b' : Nat} : ∀ {fr : Fr} {t : Nat} {v : AV}, Fr.find (ptrTo b b' fr) t = some v → Fr.find fr t = some v ∨ (Fr.find fr t = some (.ptr b 0 0 0) ∧ v = .ptr b' 0 0 0)
  | [], t, v, h => by simp [ptrTo, Fr.find] at h
  | (u, x) :: r, t, v, h => by
    simp only [ptrTo, Fr.find] at h ⊢
    split at h
    · split at h
      · rename_i y
        cases hb : Nat.beq y b with
        | true =>
          rw [hb] at h
          cases h
          exact .inr ⟨by rw [Nat.eq_of_beq_eq_true hb], rfl⟩
        | false => rw [hb] at h; cases h; exact .inl rfl
      · cases h; exact .inl rfl
    · exact ptrTo_find h
section
variable {P : Program} {N M : Nat}
theorem AW.spread {c : Code} {Kn E G R} {fr : Fr} {hp : Hp} (b esz : Nat) (bs : List Bool) (vs : List AV) (fr' : Fr) (hp' : Hp) (hM : M ≤ b) (he : hp[b]? = some ⟨esz, false, none, .var vs⟩) (hvs : vs = bs.map AV.bool) (hf : ptrTo b hp.length fr = fr')
    (hh : (dropV b hp).set b ⟨esz, false, none, .gone⟩ ++ [⟨1, false, none, .row (rowB bs)⟩] = hp') (h : AW P N M c Kn E G R fr' hp') : AW P N M c Kn E G R fr hp := by
  subst hf hh hvs
  rw [AW_iff] at h ⊢
  intro w0 ρ a w h1 h2 h3 h4 h5
  have h6 := h1.dull he .gone (by simp [AObj.lv])
  have hlen : ((dropV b hp).set b ⟨esz, false, none, .gone⟩).length = hp.length := by simp [dropV]
  obtain ⟨cells, ty, fz, q1, q2, q3, q4, q5, q6⟩ := h1.obj b _ he
  have hown := h1.own b _ he rfl (by simp [AObj.lv])
  have h7 := h6.add ⟨1, false, none, .row (rowB bs)⟩ ⟨(ρ b).blk, (ρ b).base, (ρ b).tot, 1⟩ rfl rfl rfl (fun _ => hown) (fun _ k x hk hr hl => by
    have hkb : k ≠ b := by
      intro g
      subst g
      rw [List.getElem?_set_self (by have := lt_of_ix he; simpa [dropV] using this)] at hk
      cases hk
      simp [AObj.lv] at hl
    rw [List.getElem?_set_ne (fun g => hkb g.symm)] at hk
    obtain ⟨y, hy, e1, e2⟩ : ∃ y, hp[k]? = some y ∧ y.ro = x.ro ∧ y.o.lv (ρ k) = true := by
      unfold dropV at hk
      rw [List.getElem?_map] at hk
      cases hy : hp[k]? with
      | none => rw [hy] at hk; cases hk
      | some y =>
        rw [hy] at hk
        simp only [Option.map_some, Option.some.injEq] at hk
        refine ⟨y, rfl, ?_, ?_⟩
        · rw [← hk]; split <;> rfl
        · rw [← hk] at hl
          split at hl
          · simp [AObj.lv] at hl
          · exact hl
    exact h1.apart k b y _ hy he hkb (by rw [e1]; exact hr) rfl e2 (by simp [AObj.lv])) (by
    intro _
    refine ⟨cells, ty, fz, q1, q2, q3, ?_, ?_⟩
    · rw [asz_bools] at q5
      simp only [rowB_length]
      omega
    · intro i x hx
      unfold rowB at hx
      rw [List.getElem?_map] at hx
      cases hv : bs[i]? with
      | none => rw [hv] at hx; cases hx
      | some v =>
        rw [hv] at hx
        simp only [Option.map_some, Option.some.injEq] at hx
        subst hx
        obtain ⟨c, g1, g2, g3⟩ := CAt_bools bs 0 q6 i v hv
        refine ⟨rfl, ?_⟩
        simp only [CAt]
        refine ⟨⟨c, ?_, g2, ?_⟩, trivial⟩
        · simpa using g1
        · rw [g3]; simp only [VR])
  rw [hlen] at h7
  refine wp_mono (h w0 _ a w h7 ?_ h3 h4 (by simp [dropV]; omega)) fun e a w hq => hq.mono (fun k hk => upd_lt (by omega)) (fun _ _ => id)
  intro t v hv
  have hl2 : ((dropV b hp).set b ⟨esz, false, none, .gone⟩ ++ [(⟨1, false, none, .row (rowB bs)⟩ : Ent)]).length = hp.length + 1 := by simp [dropV]
  rw [hl2]
  have hmono : ∀ v, VR ρ hp.length v (a.tmps.getD t undef) → VR (upd ρ hp.length ⟨(ρ b).blk, (ρ b).base, (ρ b).tot, 1⟩) (hp.length + 1) v (a.tmps.getD t undef) := fun v hv => VR_mono (by omega) (fun k hk => upd_lt hk) v _ hv
  rcases ptrTo_find hv with g | ⟨g, rfl⟩
  · exact hmono _ (h2 t v g)
  · have := h2 t _ g
    simp only [VR] at this ⊢
    obtain ⟨_, e⟩ := this
    refine ⟨by omega, ?_⟩
    rw [e, upd_self]
    simp
end
end Go.Aw
