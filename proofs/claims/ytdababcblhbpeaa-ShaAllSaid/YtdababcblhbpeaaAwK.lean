/-
  AwK: a region, and a piece of code, do what the evaluator says. Own work of this session.
-/
import Derived.Test.YtdababcblhbpeaaAwJ
set_option linter.unusedVariables false
set_option linter.unusedSimpArgs false
namespace Go.Aw

section
variable {P : Program} {T : Tab} (hT : TOk P T) {N M : Nat}

theorem put_size (a : Act) (d : Option Tmp) (v : Value) : (a.put d v).tmps.size = a.tmps.size := by
  cases d <;> simp [Act.put]
theorem put_defers (a : Act) (d : Option Tmp) (v : Value) : (a.put d v).defers = a.defers := by
  cases d <;> simp [Act.put]

theorem dstK_sound {ρ : Nat → Loc} {n : Nat} {a : Act} {d : Option Nat} {v : AV} {cv : Value} {fr : Fr} {K : Fr → Prop} (hN : a.tmps.size = N) (hv : VR ρ n v cv) (hf : FSat ρ n fr a.tmps) (h : dstK d v N fr K) :
    ∃ fr', K fr' ∧ FSat ρ n fr' (a.put d cv).tmps := by
  cases d with
  | none => exact ⟨fr, h, by simpa [Act.put] using hf⟩
  | some d =>
    simp only [dstK] at h
    split at h
    case h_2 => exact h.elim
    rename_i hd
    have hd' : d < a.tmps.size := by rw [hN]; simpa using hd
    simpa [Act.put] using putK_sound hd' hv hf h

/-- what an operation of a region does: it brings a value, or calls -/
theorem evOper_sound (hT : TOk P T) {w0 : Base} {w : World} {ρ : Nat → Loc} {hp : Hp} (hs : HSat w0 ρ hp w) {fr : Fr} {a : Act} {o : Oper} {K : Kont} {next : Act → World → Prop} {Q : Exit → Act → World → Prop}
    (hf : FSat ρ hp.length fr a.tmps) (h : evOper (AC P) T fr hp o.op K)
    (hn : ∀ v cv hp' ρ' w', K v hp' → VR ρ' hp'.length v cv → HSat w0 ρ' hp' w' → hp.length ≤ hp'.length → (∀ b, b < hp.length → ρ' b = ρ b) → next (a.put o.dst cv) w') :
    o.wp P a w next Q := by
  have plain : evOp T fr hp o.op K → o.wp P a w next Q := by
    intro h
    obtain ⟨v, cv, hp', ρ', w', k1, k2, k3, k4, k5, k6⟩ := evOp_sound hT hs rfl hf h
    unfold Oper.wp
    rcases k2 with k2 | ⟨k2, rfl⟩
    · rw [k2]; exact hn _ _ _ _ _ k1 k3 k4 k5 k6
    · rw [k2]; exact hn _ _ _ _ _ k1 k3 k4 k5 k6
  unfold evOper at h
  split at h
  · rename_i c hc
    split at h
    · rename_i f hcal
      obtain ⟨fv, h1, h2⟩ := avK_sound hf h
      split at h1
      case h_2 => exact h1.elim
      rename_i g caps
      obtain ⟨as, h3, h4⟩ := avsK_sound hf h1
      have h5 := appK_sound h3
      simp only [VR] at h2
      obtain ⟨cs, h6, h7⟩ := h2
      unfold AC at h5
      obtain ⟨⟨fn, q1, q2, q3⟩, h5⟩ := h5
      have h8 := VRs_append h4 h7
      have h9 := h5 w0 ρ w _ hs h8
      unfold Oper.wp execOp
      rw [hc]
      have e1 : c.args.map a.eval ++ cs.toArray = (c.args.toList.map a.eval ++ cs).toArray := by
        rw [← Array.toList_map]; simp
      have e2 : (do let d ← resolve a.eval c o.type; invoke d.target d.args : Sem Next).run P w = .ok (.enter g (c.args.toList.map a.eval ++ cs).toArray) w := by
        simp only [resolve, hcal, h6, Deferred.ofValue, Sem.run_bind, Sem.run_pure, Result.andThen_ok, invoke, callFunc, run_program, q1, q2, q3]
        simp [← e1]
      dsimp only
      rw [e2]
      simp only [Oper.upon]
      refine h9.mono ?_
      rintro e w' ⟨r, v, hp', ρ', rfl, k1, k2, k3, k4, k5⟩
      exact hn _ _ _ _ _ k1 k2 k3 k4 k5
    · rename_i hcal
      rw [← hc] at h
      exact plain h
  · exact plain h

theorem evOps_sound (hT : TOk P T) {all : Array Oper} {K : Fr → Hp → Prop} {w0 : Base} {ρ0 : Nat → Loc} {Q : Exit → Act → World → Prop}
    (hQ : ∀ a w fr hp ρ, K fr hp → HSat w0 ρ hp w → FSat ρ hp.length fr a.tmps → a.tmps.size = N → a.defers = [] → M ≤ hp.length → (∀ b, b < M → ρ b = ρ0 b) → Q .normal a w) :
    ∀ (l : List Nat) (rest : List Oper), l.map (fun i => all[i]?) = rest.map some → ∀ (fr : Fr) (hp : Hp) (ρ : Nat → Loc) (a : Act) (w : World), evOps (AC P) T N all rest fr hp K →
      HSat w0 ρ hp w → FSat ρ hp.length fr a.tmps → a.tmps.size = N → a.defers = [] → M ≤ hp.length → (∀ b, b < M → ρ b = ρ0 b) → wpOps P all Q l a w
  | [], [], _, fr, hp, ρ, a, w, h, hs, hf, hN, hd, hM, hρ => by
    simp only [evOps] at h
    exact hQ a w fr hp ρ h hs hf hN hd hM hρ
  | [], _ :: _, hl, _, _, _, _, _, _, _, _, _, _, _, _ => by simp at hl
  | _ :: _, [], hl, _, _, _, _, _, _, _, _, _, _, _, _ => by simp at hl
  | i :: l, o :: rest, hl, fr, hp, ρ, a, w, h, hs, hf, hN, hd, hM, hρ => by
    simp only [List.map_cons, List.cons.injEq] at hl
    obtain ⟨hi, hl⟩ := hl
    simp only [wpOps, hi]
    have go : evOper (AC P) T fr hp o.op (fun v hp' => dstK o.dst v N fr fun fr' => evOps (AC P) T N all rest fr' hp' K) → o.wp P a w (wpOps P all Q l) Q := by
      intro h
      refine evOper_sound hT hs hf h fun v cv hp' ρ' w' k1 k2 k3 k4 k5 => ?_
      obtain ⟨fr', k6, k7⟩ := dstK_sound hN k2 (FSat_mono k4 k5 hf) k1
      exact evOps_sound hT hQ l rest hl fr' hp' ρ' _ _ k6 k3 k7 (by rw [put_size]; exact hN) (by rw [put_defers]; exact hd) (by omega) (fun b hb => by rw [k5 b (by omega)]; exact hρ b hb)
    simp only [evOps, evStep] at h
    split at h
    · rename_i hg
      have : Region.wanted o (yielded all a.tmps) = true := by simp [Region.wanted, hg]
      rw [if_pos this]
      exact .inl (go h)
    · rename_i j want hg
      split at h
      case h_2 => exact h.elim
      rename_i d hjd
      obtain ⟨g, h1, h2⟩ := getK_sound hf h
      have hu : ∀ ρ n, VR ρ n (.tup []) undef := fun ρ n => by simp only [VR, VRs]; exact ⟨[], rfl, rfl⟩
      have skip : Region.wanted o (yielded all a.tmps) = false → (dstK o.dst (.tup []) N fr fun fr' => evOps (AC P) T N all rest fr' hp K) →
          (if Region.wanted o (yielded all a.tmps) = true then o.wp P a w (wpOps P all Q l) Q ∨ (o.asks P a w ∧ LetsOut Q) else wpOps P all Q l (a.put o.dst undef) w) := by
        intro hw h1
        rw [if_neg (by rw [hw]; simp)]
        obtain ⟨fr', k6, k7⟩ := dstK_sound (a := a) (cv := undef) hN (hu _ _) hf h1
        exact evOps_sound hT hQ l rest hl fr' hp ρ _ _ k6 hs k7 (by rw [put_size]; exact hN) (by rw [put_defers]; exact hd) hM hρ
      split at h1
      · rename_i g
        simp only [VR] at h2
        have hy : yielded all a.tmps j = some g := by
          simp only [yielded]
          cases hj : all[j]? with
          | none => simp [hj] at hjd
          | some oj =>
            simp only [hj, Option.bind_some] at hjd
            have : a.tmps[d]? = some (.bool g) := by
              rw [Array.getD_eq_getD_getElem?] at h2
              cases hx : a.tmps[d]? with
              | none => simp [hx, undef] at h2
              | some x => simp [hx] at h2; rw [h2]
            simp [hjd, this]
        have hw : Region.wanted o (yielded all a.tmps) = (g == want) := by
          simp [Region.wanted, hg, hy]
        split at h1
        · rename_i hgw
          rw [if_pos (by rw [hw]; exact hgw)]
          exact .inl (go h1)
        · rename_i hgw
          exact skip (by rw [hw]; exact hgw) h1
      · simp only [VR, VRs] at h2
        obtain ⟨cs, h2, rfl⟩ := h2
        have hy : yielded all a.tmps j = none := by
          simp only [yielded]
          cases hj : all[j]? with
          | none => simp [hj] at hjd
          | some oj =>
            simp only [hj, Option.bind_some] at hjd
            rw [Array.getD_eq_getD_getElem?] at h2
            cases hx : a.tmps[d]? with
            | none => simp [hjd, hx]
            | some x => simp [hx] at h2; simp [hjd, hx, h2]
        exact skip (by simp [Region.wanted, hg, hy]) h1
      · exact h1.elim

/-- what stands behind a piece of code, said of the model -/
def Post (w0 : Base) (N M : Nat) (ρ : Nat → Loc) (Kn : Fr → Hp → Prop) (E : List (Nat × (Fr → Hp → Prop))) (G : Nat → Fr → Hp → Prop) (R : Fr → Hp → Prop) : Exit → Act → World → Prop :=
  fun e a' w' => ∃ (fr' : Fr) (hp' : Hp) (ρ' : Nat → Loc), Goes Kn E G R e fr' hp' ∧ HSat w0 ρ' hp' w' ∧ FSat ρ' hp'.length fr' a'.tmps ∧ a'.tmps.size = N ∧ a'.defers = [] ∧ M ≤ hp'.length ∧ ∀ b, b < M → ρ' b = ρ b

theorem AW_iff {c : Code} {Kn E G R fr hp} : AW P N M c Kn E G R fr hp ↔ ∀ (w0 : Base) (ρ : Nat → Loc) (a : Act) (w : World), HSat w0 ρ hp w → FSat ρ hp.length fr a.tmps → a.tmps.size = N → a.defers = [] → M ≤ hp.length →
    c.wp P (Post w0 N M ρ Kn E G R) a w := by
  unfold AW; exact Iff.rfl

theorem Post.mono {w0 : Base} {ρ ρ1 : Nat → Loc} {Kn Kn' E G R e a w} (h : Post w0 N M ρ1 Kn E G R e a w) (hρ : ∀ b, b < M → ρ1 b = ρ b) (hK : ∀ fr hp, Kn fr hp → Kn' fr hp) : Post w0 N M ρ Kn' E G R e a w := by
  obtain ⟨fr', hp', ρ', g, k1, k2, k3, k4, k5, k6⟩ := h
  refine ⟨fr', hp', ρ', ?_, k1, k2, k3, k4, k5, fun b hb => by rw [k6 b hb, hρ b hb]⟩
  cases e <;> first | exact hK _ _ g | exact g

theorem AW.mono {c : Code} {Kn Kn' E G R fr hp} (h : AW P N M c Kn E G R fr hp) (hK : ∀ fr hp, Kn fr hp → Kn' fr hp) : AW P N M c Kn' E G R fr hp := by
  rw [AW_iff] at h ⊢
  exact fun w0 ρ a w h1 h2 h3 h4 h5 => wp_mono (h w0 ρ a w h1 h2 h3 h4 h5) fun e a w hq => hq.mono (fun _ _ => rfl) hK

theorem AW.seq {x y : Code} {Kn E G R fr hp} (h : AW P N M x (fun fr hp => AW P N M y Kn E G R fr hp) E G R fr hp) : AW P N M (.seq x y) Kn E G R fr hp := by
  rw [AW_iff] at h ⊢
  intro w0 ρ a w h1 h2 h3 h4 h5
  refine wp_seq (wp_mono (h w0 ρ a w h1 h2 h3 h4 h5) ?_)
  rintro e a' w' ⟨fr', hp', ρ', g, k1, k2, k3, k4, k5, k6⟩
  cases e with
  | normal =>
    have g' : AW P N M y Kn E G R fr' hp' := g
    rw [AW_iff] at g'
    exact wp_mono (g' w0 ρ' a' w' k1 k2 k3 k4 k5) fun e a w hq => hq.mono k6 (fun _ _ => id)
  | _ => exact ⟨fr', hp', ρ', g, k1, k2, k3, k4, k5, k6⟩

theorem exitK_sound : ∀ {E : List (Nat × KN)} {id : Nat} {fr hp}, exitK E id fr hp → ∃ x, E.find? (fun x => Nat.beq x.1 id) = some x ∧ x.2 fr hp
  | [], id, fr, hp, h => h.elim
  | (i, K) :: r, id, fr, hp, h => by
    simp only [exitK] at h
    simp only [List.find?]
    split at h
    · exact ⟨(i, K), by simp_all, h⟩
    · rename_i hh; simp only [hh]; exact exitK_sound h

theorem AW.block {id : Nat} {c : Code} {Kn E G R fr hp} (h : AW P N M c Kn ((id, Kn) :: E) G R fr hp) : AW P N M (.block id c) Kn E G R fr hp := by
  rw [AW_iff] at h ⊢
  intro w0 ρ a w h1 h2 h3 h4 h5
  refine wp_block (wp_mono (h w0 ρ a w h1 h2 h3 h4 h5) ?_)
  rintro e a' w' ⟨fr', hp', ρ', g, k⟩
  cases e with
  | exit id' =>
    simp only [Exit.inBlock]
    simp only [Goes, List.find?] at g
    split
    · rename_i hid
      subst hid
      simp only [Nat.beq_refl] at g
      exact ⟨fr', hp', ρ', g, k⟩
    · rename_i hid
      have : Nat.beq id id' = false := by
        cases hb : Nat.beq id id' with
        | false => rfl
        | true => exact absurd (Nat.eq_of_beq_eq_true hb).symm hid
      simp only [this] at g
      exact ⟨fr', hp', ρ', g, k⟩
  | _ => exact ⟨fr', hp', ρ', g, k⟩

theorem AW.region {id : Nat} {ops : Array Oper} {keep : Nat → Bool} {Kn E G R fr hp} (hT : TOk P T) (h : evOps (AC P) T N ops ops.toList fr hp fun fr' hp' => keepK keep fr' fun fr'' => Kn fr'' hp') :
    AW P N M (.region id ops false) Kn E G R fr hp := by
  rw [AW_iff]
  intro w0 ρ a w h1 h2 h3 h4 h5
  refine wp_region (evOps_sound (M := M) (ρ0 := ρ) hT ?_ _ ops.toList ?_ fr hp ρ a w h h1 h2 h3 h4 h5 (fun _ _ => rfl))
  · intro a w fr hp ρ' k1 k2 k3 k4 k5 k6 k7
    obtain ⟨fr', k8, k9⟩ := keepK_sound k3 k1
    exact ⟨fr', hp, ρ', k8, k2, k9, k4, k5, k6, k7⟩
  · apply List.ext_getElem
    · simp
    · intro i g1 g2
      simp at g1 g2
      simp [g1]

theorem ev_sound (hT : TOk P T) {keep : Nat → Bool} : ∀ {c : Code} {Kn E G R fr hp}, ev (AC P) (AW P N M) T N keep c Kn E G R fr hp → AW P N M c Kn E G R fr hp := by
  intro c
  induction c with
  | skip =>
    intro Kn E G R fr hp h
    rw [AW_iff]
    exact fun w0 ρ a w h1 h2 h3 h4 h5 => wp_skip ⟨fr, hp, ρ, h, h1, h2, h3, h4, h5, fun _ _ => rfl⟩
  | label l =>
    intro Kn E G R fr hp h
    rw [AW_iff]
    exact fun w0 ρ a w h1 h2 h3 h4 h5 => wp_label ⟨fr, hp, ρ, h, h1, h2, h3, h4, h5, fun _ _ => rfl⟩
  | seq x y ihx ihy =>
    intro Kn E G R fr hp h
    exact AW.seq (AW.mono (ihx h) fun fr hp h => ihy h)
  | cond c x y ihx ihy =>
    intro Kn E G R fr hp h
    rw [AW_iff]
    intro w0 ρ a w h1 h2 h3 h4 h5
    simp only [ev] at h
    obtain ⟨g, k1, k2⟩ := avK_sound h2 h
    split at k1
    case h_2 => exact k1.elim
    rename_i g
    simp only [VR] at k2
    refine wp_cond k2 ?_
    split at k1
    · have := ihx k1
      rw [AW_iff] at this
      exact this w0 ρ a w h1 h2 h3 h4 h5
    · have := ihy k1
      rw [AW_iff] at this
      exact this w0 ρ a w h1 h2 h3 h4 h5
  | block id c ih =>
    intro Kn E G R fr hp h
    exact AW.block (ih h)
  | exit id =>
    intro Kn E G R fr hp h
    rw [AW_iff]
    intro w0 ρ a w h1 h2 h3 h4 h5
    obtain ⟨x, q1, q2⟩ := exitK_sound h
    exact wp_exit ⟨fr, hp, ρ, by simp only [Goes, q1]; exact q2, h1, h2, h3, h4, h5, fun _ _ => rfl⟩
  | goto l =>
    intro Kn E G R fr hp h
    rw [AW_iff]
    exact fun w0 ρ a w h1 h2 h3 h4 h5 => wp_goto ⟨fr, hp, ρ, h, h1, h2, h3, h4, h5, fun _ _ => rfl⟩
  | ret =>
    intro Kn E G R fr hp h
    rw [AW_iff]
    exact fun w0 ρ a w h1 h2 h3 h4 h5 => wp_ret ⟨fr, hp, ρ, h, h1, h2, h3, h4, h5, fun _ _ => rfl⟩
  | region id ops draw =>
    intro Kn E G R fr hp h
    cases draw with
    | false => exact AW.region hT h
    | true => exact h
  | loop c ih => exact fun h => h
  | scope c ih => exact fun h => h
  | rangeFunc f ps a b => exact fun h => h
  | refuse _ => exact fun h => h.elim

theorem wp_loop_ind {Q : Exit → Act → World → Prop} {c : Code} (I : Nat → Act → World → Prop) {n : Nat} {a : Act} {w : World} (h0 : I n a w)
    (round : ∀ n a w, I n a w → c.wp P (Exit.then (fun a' w' => ∃ m, m < n ∧ I m a' w') Q) a w) : (Code.loop c).wp P Q a w := by
  intro b k cs
  have key : ∀ n a w, I n a w → ∃ e a' w', Q e a' w' ∧ Arrives P (lone (b.at a (.code c :: .inLoop c :: k)) cs w) b k cs e a' w' := by
    intro n
    induction n using Nat.strongRecOn with
    | _ n ih =>
      intro a w hI
      obtain ⟨e, a₁, w₁, hq, harr⟩ := round n a w hI b (.inLoop c :: k) cs
      cases e with
      | normal =>
        obtain ⟨m, hlt, hI₁⟩ := hq
        obtain ⟨e₂, a₂, w₂, hq₂, harr₂⟩ := ih m hlt a₁ w₁ hI₁
        exact ⟨e₂, a₂, w₂, hq₂, .of_steps (Steps.trans harr (.one step_inLoop)) harr₂⟩
      | _ => exact ⟨_, a₁, w₁, hq, .pass (x := .inLoop c) rfl (fun _ _ => .inl (by simp)) harr⟩
  obtain ⟨e, a', w', hq, harr⟩ := key n a w h0
  exact ⟨e, a', w', hq, .of_steps (.one step_loop) harr⟩

/-- a loop: what holds ahead of each round; the number falls -/
theorem AW.loop {c : Code} {Kn E G R fr hp} (I : Nat → Fr → Hp → Prop) (n : Nat) (h0 : I n fr hp)
    (round : ∀ n fr hp, I n fr hp → M ≤ hp.length → AW P N M c (fun fr' hp' => ∃ m, m < n ∧ I m fr' hp') E G R fr hp) : AW P N M (.loop c) Kn E G R fr hp := by
  rw [AW_iff]
  intro w0 ρ a w h1 h2 h3 h4 h5
  refine wp_loop_ind (fun n a w => ∃ fr hp ρ', I n fr hp ∧ HSat w0 ρ' hp w ∧ FSat ρ' hp.length fr a.tmps ∧ a.tmps.size = N ∧ a.defers = [] ∧ M ≤ hp.length ∧ ∀ b, b < M → ρ' b = ρ b) (n := n) ⟨fr, hp, ρ, h0, h1, h2, h3, h4, h5, fun _ _ => rfl⟩ ?_
  rintro n a w ⟨fr, hp, ρ', g0, g1, g2, g3, g4, g5, g6⟩
  have := round n fr hp g0 g5
  rw [AW_iff] at this
  refine wp_mono (this w0 ρ' a w g1 g2 g3 g4 g5) ?_
  rintro e a' w' ⟨fr', hp', ρ'', g, k1, k2, k3, k4, k5, k6⟩
  cases e with
  | normal =>
    obtain ⟨m, hm, hI⟩ := g
    exact ⟨m, hm, fr', hp', ρ'', hI, k1, k2, k3, k4, k5, fun b hb => by rw [k6 b hb, g6 b hb]⟩
  | _ => exact ⟨fr', hp', ρ'', g, k1, k2, k3, k4, k5, fun b hb => by rw [k6 b hb, g6 b hb]⟩
end
end Go.Aw
