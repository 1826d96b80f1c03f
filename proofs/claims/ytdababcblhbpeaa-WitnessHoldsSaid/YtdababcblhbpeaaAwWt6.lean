/-
  AwWt6: what the node's own claims say: they hold from the height on at which they ripen, and not before; the law WitnessHolds. Own work.
-/
import Derived.Test.YtdababcblhbpeaaAwWt5
import Derived.Test.YtdababcblhbpeaaAwSc6
set_option linter.unusedVariables false
set_option linter.unusedSimpArgs false
set_option maxRecDepth 20000
open Go.Proofs
namespace Go.Aw

def Hol (s : Scr) (k : Keys3) (c : Clm) (conf extra : Int) : Prop :=
  conf < ripI c conf ∧ ripI c conf ≤ 1099511627776 ∧ Ent3 s k c.wit ∧ Evs s c.wit ⟨c.seq, ripI c conf + extra - conf, c.lock⟩ ∧ c.lock ≤ ripI c conf + extra ∧
    ¬ (ripI c conf - 1 > conf ∧ Evs s c.wit ⟨c.seq, ripI c conf - 1 - conf, c.lock⟩ ∧ c.lock ≤ ripI c conf - 1)

theorem ripI_small {w : Wit} {seq lock wait conf : Int} (a : 0 ≤ conf ∧ conf ≤ 500000) (b : 0 ≤ wait ∧ wait ≤ 1073741824) (d : 0 ≤ lock ∧ lock ≤ 1073741824) : ripI ⟨w, seq, lock, wait⟩ conf = max (max (conf + wait) (conf + 1)) lock := by
  have h : ∀ n : Int, 0 ≤ n → n ≤ 1073741824 → heldI n = n := fun n p q => by unfold heldI; split <;> (try split) <;> omega
  rw [ripI_eq, h conf (by omega) (by omega), h wait b.1 b.2, h lock d.1 d.2]; omega

/-- a claim of a witness that the script takes -/
theorem hol_of {s : Scr} {k : Keys3} {w : Wit} {seq lock wait conf extra : Int} (a : 0 ≤ conf ∧ conf ≤ 500000) (b : 0 ≤ wait ∧ wait ≤ 1073741824) (d : 0 ≤ lock ∧ lock ≤ 1073741824)
    (he : 0 ≤ extra) (hE : Ent3 s k w) (up : ∀ depth, wait ≤ depth → 1 ≤ depth → Evs s w ⟨seq, depth, lock⟩) (down : ∀ depth, 1 ≤ depth → depth < wait → ¬ Evs s w ⟨seq, depth, lock⟩) : Hol s k ⟨w, seq, lock, wait⟩ conf extra := by
  have hr := ripI_small (w := w) (seq := seq) a b d
  unfold Hol
  rw [hr]
  refine ⟨by omega, by omega, hE, up _ (by omega) (by omega), by simp only; omega, ?_⟩
  rintro ⟨g1, g2, g3⟩
  simp only at g2 g3
  by_cases h : max (max (conf + wait) (conf + 1)) lock - 1 - conf < wait
  · exact down _ (by omega) h g2
  · omega

theorem mineE_or (s : Scr) (k : Keys3) (pre : List UInt8) (kn : Bool) : mineE s k pre kn = 0 ∨ mineE s k pre kn = 5 := by
  unfold mineE mineP mineK
  split
  · repeat' split
    all_goals simp
  · simp
theorem jusE_or (s : Scr) (k : Keys3) : jusE s k = 0 ∨ jusE s k = 5 := by
  unfold jusE; cases jusB s k <;> simp

theorem hol_jus {s : Scr} {k : Keys3} {conf extra : Int} (a : 0 ≤ conf ∧ conf ≤ 500000) (he : 0 ≤ extra) (h : jusE s k = 0) : Hol s k (jusC s k) conf extra := by
  have g : jusB s k = true := by
    unfold jusE at h
    cases hb : jusB s k with
    | true => rfl
    | false => rw [hb] at h; simp at h
  have hC : jusC s k = ⟨⟨3, k.rev, []⟩, 0, 0, 0⟩ := by unfold jusC; rw [g]
  obtain ⟨hok, hk, hr⟩ := jusB_true.1 g
  rw [hC]
  have hev : ∀ c : Ctx3, Evs s ⟨3, k.rev, []⟩ c := by
    intro c
    rcases hk with hk | hk | hk
    · rw [evs2 hok hk]; exact .inr ⟨rfl, hr.symm⟩
    · rw [evs5 hok hk]; exact .inr (.inr ⟨rfl, hr.symm⟩)
    · rw [evs6 hok hk]; exact .inr (.inr ⟨rfl, hr.symm⟩)
  exact hol_of a (by omega) (by omega) he ⟨by simp, by simp, hev _⟩ (fun d _ _ => hev _) (fun d h1 h2 => by omega)

theorem hol_mine {s : Scr} {k : Keys3} {pre : List UInt8} {kn : Bool} {conf extra : Int} (a : 0 ≤ conf ∧ conf ≤ 500000) (he : 0 ≤ extra) (hkn : kn = true → toldI s.hash pre = 1) (h : mineE s k pre kn = 0) :
    Hol s k (mineC s k pre kn) conf extra := by
  by_cases hok : s.ok
  case neg => unfold mineE mineP at h; rw [if_neg hok] at h; simp at h
  unfold mineC
  unfold mineE at h
  rw [mineP_ok hok] at h ⊢
  have hok' := hok
  unfold Scr.ok at hok'
  unfold mineK at h ⊢
  by_cases k1 : s.kind = 1
  · simp only [if_pos k1] at h ⊢
    by_cases q : s.key = k.wallet
    case neg => simp [q] at h
    simp only [if_pos q]
    have hev : ∀ c : Ctx3, Evs s ⟨1, k.wallet, []⟩ c := fun c => by rw [evs1 hok k1]; exact ⟨rfl, q.symm⟩
    exact hol_of a (by omega) (by omega) he ⟨by simp, by simp [k1], hev _⟩ (fun d _ _ => hev _) (fun d h1 h2 => by omega)
  simp only [if_neg k1] at h ⊢
  by_cases k2 : s.kind = 2
  · simp only [if_pos k2] at h ⊢
    by_cases q : s.key = k.own
    case neg => simp [q] at h
    simp only [if_pos q]
    refine hol_of a (by omega) (by omega) he ⟨by simp, by simp [k1], ?_⟩ (fun d h1 h2 => ?_) (fun d h1 h2 => ?_)
    · rw [evs2 hok k2]; exact .inl ⟨rfl, q.symm, by simp only; omega, by simp only; omega⟩
    · rw [evs2 hok k2]; exact .inl ⟨rfl, q.symm, by simp only; omega, by simp only; omega⟩
    · rw [evs2 hok k2]
      rintro (g | g)
      · have := g.2.2.2; simp only at this; omega
      · exact absurd g.1 (by simp)
  simp only [if_neg k2] at h ⊢
  by_cases k3 : s.kind = 3
  · simp only [if_pos k3] at h ⊢
    by_cases q : s.key = k.own
    case neg => simp [q] at h
    simp only [if_pos q]
    refine hol_of a (by omega) (by omega) he ⟨by simp, by simp [k1], ?_⟩ (fun d h1 h2 => ?_) (fun d h1 h2 => by omega)
    · rw [evs3 hok k3]; exact ⟨rfl, q.symm, by simp only; omega, by simp only; omega⟩
    · rw [evs3 hok k3]; exact ⟨rfl, q.symm, by simp only; omega, by simp only; omega⟩
  simp only [if_neg k3] at h ⊢
  by_cases k4 : s.kind = 4
  · simp only [if_pos k4] at h ⊢
    by_cases q : s.key = k.own
    case neg => simp [q] at h
    simp only [if_pos q]
    have hev : ∀ c : Ctx3, Evs s ⟨1, k.own, []⟩ c := fun c => by rw [evs4 hok k4]; exact .inl ⟨rfl, q.symm⟩
    exact hol_of a (by omega) (by omega) he ⟨by simp, by simp [k1], hev _⟩ (fun d _ _ => hev _) (fun d h1 h2 => by omega)
  simp only [if_neg k4] at h ⊢
  by_cases k5 : s.kind = 5
  · simp only [if_pos k5] at h ⊢
    by_cases q : s.other = k.own ∧ kn = true
    · simp only [if_pos q]
      have hev : ∀ c : Ctx3, Evs s ⟨2, k.own, pre⟩ c := fun c => by rw [evs5 hok k5]; exact .inr (.inl ⟨rfl, q.1.symm, hkn q.2⟩)
      exact hol_of a (by omega) (by omega) he ⟨by simp, by simp [k1], hev _⟩ (fun d _ _ => hev _) (fun d h1 h2 => by omega)
    simp only [if_neg q] at h ⊢
    by_cases q : s.key = k.own
    case neg => simp [q] at h
    simp only [if_pos q]
    refine hol_of a (by omega) (by omega) he ⟨by simp, by simp [k1], ?_⟩ (fun d h1 h2 => ?_) (fun d h1 h2 => by omega)
    · rw [evs5 hok k5]; exact .inl ⟨rfl, q.symm, by simp only; omega⟩
    · rw [evs5 hok k5]; exact .inl ⟨rfl, q.symm, by simp only; omega⟩
  simp only [if_neg k5] at h ⊢
  have k6 : s.kind = 6 := by omega
  by_cases q : s.key = k.own ∧ kn = true
  · simp only [if_pos q]
    have hev : ∀ c : Ctx3, Evs s ⟨2, k.own, pre⟩ c := fun c => by rw [evs6 hok k6]; exact .inl ⟨rfl, q.1.symm, hkn q.2⟩
    exact hol_of a (by omega) (by omega) he ⟨by simp, by simp [k1], hev _⟩ (fun d _ _ => hev _) (fun d h1 h2 => by omega)
  simp only [if_neg q] at h ⊢
  by_cases q : s.other = k.own
  case neg => simp [q] at h
  simp only [if_pos q]
  refine hol_of a (by omega) (by omega) he ⟨by simp, by simp [k1], ?_⟩ (fun d h1 h2 => ?_) (fun d h1 h2 => by omega)
  · rw [evs6 hok k6]; exact .inr (.inl ⟨rfl, q.symm, by simp only; omega⟩)
  · rw [evs6 hok k6]; exact .inr (.inl ⟨rfl, q.symm, by simp only; omega⟩)
end Go.Aw
