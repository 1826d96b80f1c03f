/-
  Own work: parts of the proof: AwRf AwRf2 AwRf3.
-/
import Derived.Test.YtdababcblhbpeaaM3
import Derived.Test.YtdababcblhbpeaaM10
import Derived.RangeFuncRecord
import Derived.RangeFuncSeq
import Derived.Test.YtdababcblhbpeaaM9

section
/-
  AwRf: a range over a function: rounds, and what stands around them. Own work.
-/
set_option linter.unusedVariables false
set_option linter.unusedSimpArgs false
namespace Go.Aw
open Go
section
variable {P : Program} {T : Tab} {N M : Nat}

/-- everything is let in; the frame is of a round, or of none -/
def FR (r : Option Nat) : Fence := { Fence.wide with round := r }
theorem callsIn_FR {r : Option Nat} {n : Nat} {f : FuncId} {args : Array Value} {w : World} {R : Ending → World → Prop} (h : Calls P f args w R) : CallsIn (FR r) n P f args w R :=
  ⟨trivial, fun cs _ => let ⟨e, w', fr, q, s, x⟩ := h cs; ⟨e, w', fr, q, comesIn_wide.2 s, x⟩⟩
theorem rowsIn_FR {r : Option Nat} {n : Nat} {row : String} {args : Array Value} {w : World} {R : Value → World → Prop} (h : Rows P row args w R) : RowsIn (FR r) n P row args w R :=
  fun c cs _ => let ⟨v, w', q, s⟩ := h c cs; ⟨v, w', q, stepsIn_wide.2 s⟩

theorem wpOps_in {r : Option Nat} {n : Nat} {ops : Array Oper} {Q' Q : Exit → Act → World → Prop} (hnd : ∀ (i : Nat) (o : Oper), ops[i]? = some o → ∀ c, o.op ≠ .defer c) (hL : ¬ LetsOut Q') (l2 : List Nat)
    (hk : ∀ a w, Q' .normal a w → wpOpsIn (FR r) n P ops Q l2 a w) (hp : ∀ ch a w, Q' (.panic ch) a w → Q (.panic ch) a w) :
    ∀ (l : List Nat) (a : Act) (w : World), wpOps P ops Q' l a w → wpOpsIn (FR r) n P ops Q (l ++ l2) a w
  | [], a, w, h => hk a w h
  | i :: l, a, w, h => by
    simp only [wpOps] at h
    simp only [List.cons_append, wpOpsIn]
    cases ho : ops[i]? with
    | none =>
      simp only [ho] at h
      exact wpOps_in hnd hL l2 hk hp l a w h
    | some o =>
      simp only [ho] at h ⊢
      by_cases hw : Region.wanted o (yielded ops a.tmps) = true
      · rw [if_pos hw] at h ⊢
        rcases h with h | ⟨_, h⟩
        · refine ⟨fun _ _ => trivial, ?_⟩
          rw [Oper.semAt_eq _ _ _ (hnd i o ho)]
          unfold Oper.wp at h
          cases hx : (execOp a.eval o).run P w with
          | ok nx w' =>
            rw [hx] at h
            cases nx <;> simp only [Oper.upon] at h <;> simp only [Oper.uponIn]
            case value v => exact wpOps_in hnd hL l2 hk hp l _ _ h
            case skip => exact wpOps_in hnd hL l2 hk hp l _ _ h
            case defer d => exact wpOps_in hnd hL l2 hk hp l _ _ h
            case enter f args =>
              refine ⟨fun hd => by simp [FR, Fence.wide] at hd, callsIn_FR (h.mono ?_)⟩
              intro e w'' hq
              cases e with
              | returned v => exact wpOps_in hnd hL l2 hk hp l _ _ hq
              | panicked ch => exact hp _ _ _ hq
              | outgrown => exact absurd hq hL
            case row row args =>
              refine ⟨fun hd => by simp [FR, Fence.wide] at hd, rowsIn_FR (h.mono ?_)⟩
              intro v w'' hq
              exact wpOps_in hnd hL l2 hk hp l _ _ hq
          | halt x w' =>
            rw [hx] at h
            cases x <;> simp only [Oper.upon] at h
            simp only [Oper.uponIn]
            exact hp _ _ _ h
        · exact absurd h hL
      · rw [if_neg hw] at h ⊢
        exact ⟨fun _ _ => trivial, wpOps_in hnd hL l2 hk hp l _ _ h⟩

def noDefer (ops : Array Oper) : Bool := ops.toList.all fun o => match o.op with | .defer _ => false | _ => true
theorem noDefer_get {ops : Array Oper} (h : noDefer ops = true) : ∀ (i : Nat) (o : Oper), ops[i]? = some o → ∀ c, o.op ≠ .defer c := by
  intro i o ho c hc
  have hm : o ∈ ops.toList := by
    rw [Array.mem_toList_iff]
    exact Array.mem_of_getElem? ho
  have := List.all_eq_true.1 h o hm
  rw [hc] at this
  cases this

/-- what stands behind a straight piece -/
abbrev PostN (w0 : Base) (N M : Nat) (ρ : Nat → Loc) (Kn : Fr → Hp → Prop) : Exit → Act → World → Prop := Post w0 N M ρ Kn [] (fun _ _ _ => False) (fun _ _ => False)
theorem PostN_out {w0 : Base} {ρ : Nat → Loc} {Kn : Fr → Hp → Prop} : ¬ LetsOut (PostN w0 N M ρ Kn) := by
  rintro ⟨a, w, fr, hp, ρ', g, _⟩
  exact g.elim
theorem PostN_panic {w0 : Base} {ρ : Nat → Loc} {Kn : Fr → Hp → Prop} {ch : List PanicEntry} {a : Act} {w : World} (h : PostN w0 N M ρ Kn (.panic ch) a w) : False := by
  obtain ⟨fr, hp, ρ', g, _⟩ := h
  exact g.elim

/-- a straight piece of code in a round's frame, or in any -/
@[irreducible] def AR (P : Program) (r : Option Nat) (N M : Nat) (c : Code) (Kn : Fr → Hp → Prop) (fr : Fr) (hp : Hp) : Prop :=
  ∀ (w0 : Base) (ρ : Nat → Loc) (a : Act) (w : World), HSat w0 ρ hp w → FSat ρ hp.length fr a.tmps → a.tmps.size = N → a.defers = w0.ds → M ≤ hp.length →
    c.wpIn (FR r) 0 P (PostN w0 N M ρ Kn) a w
theorem AR_iff {r : Option Nat} {c : Code} {Kn fr hp} : AR P r N M c Kn fr hp ↔ ∀ (w0 : Base) (ρ : Nat → Loc) (a : Act) (w : World), HSat w0 ρ hp w → FSat ρ hp.length fr a.tmps → a.tmps.size = N → a.defers = w0.ds → M ≤ hp.length →
    c.wpIn (FR r) 0 P (PostN w0 N M ρ Kn) a w := by
  unfold AR; exact Iff.rfl
theorem AR.region {r : Option Nat} {id : Nat} {ops : Array Oper} {keep : Nat → Bool} {Kn fr hp} (hT : TOk P T) (hnd : noDefer ops = true) (h : evOps (AC P) T N ops ops.toList fr hp fun fr' hp' => keepK keep fr' fun fr'' => Kn fr'' hp') :
    AR P r N M (.region id ops false) Kn fr hp := by
  rw [AR_iff]
  intro w0 ρ a w h1 h2 h3 h4 h5
  refine wpIn_region ?_
  rw [← List.append_nil (List.range ops.size)]
  refine wpOps_in (Q' := PostN w0 N M ρ Kn) (noDefer_get hnd) PostN_out [] (fun a w hq => ?_) (fun ch a w hq => (PostN_panic hq).elim) _ a w (evOps_sound (M := M) (ρ0 := ρ) hT ?_ _ ops.toList ?_ fr hp ρ a w h h1 h2 h3 h4 h5 (fun _ _ => rfl))
  · simp only [wpOpsIn]; exact hq
  · intro a w fr hp ρ' k1 k2 k3 k4 k5 k6 k7
    obtain ⟨fr', k8, k9⟩ := keepK_sound k3 k1
    exact ⟨fr', hp, ρ', k8, k2, k9, k4, k5, k6, k7⟩
  · apply List.ext_getElem
    · simp
    · intro i g1 g2
      simp at g1 g2
      simp [g1]
theorem AR.seq {r : Option Nat} {x y : Code} {Kn fr hp} (h : AR P r N M x (fun fr hp => AR P r N M y Kn fr hp) fr hp) : AR P r N M (.seq x y) Kn fr hp := by
  rw [AR_iff] at h ⊢
  intro w0 ρ a w h1 h2 h3 h4 h5
  refine wpIn_seq (wpIn_mono (h w0 ρ a w h1 h2 h3 h4 h5) ?_)
  rintro e a' w' ⟨fr', hp', ρ', g, k1, k2, k3, k4, k5, k6⟩
  cases e with
  | normal =>
    have g' : AR P r N M y Kn fr' hp' := g
    rw [AR_iff] at g'
    exact wpIn_mono (g' w0 ρ' a' w' k1 k2 k3 k4 k5) fun e a w hq => hq.mono k6 (fun _ _ => id)
  | exit id => simp [Goes, List.find?] at g
  | _ => exact g.elim
theorem AR.block {r : Option Nat} {id : Nat} {c : Code} {Kn fr hp} (h : AR P r N M c Kn fr hp) : AR P r N M (.block id c) Kn fr hp := by
  rw [AR_iff] at h ⊢
  intro w0 ρ a w h1 h2 h3 h4 h5
  refine wpIn_block (wpIn_mono (h w0 ρ a w h1 h2 h3 h4 h5) ?_)
  rintro e a' w' ⟨fr', hp', ρ', g, k⟩
  cases e with
  | exit id' => simp [Goes, List.find?] at g
  | _ => exact ⟨fr', hp', ρ', g, k⟩
theorem AR.post {r : Option Nat} {c : Code} {Kn} {fr : Fr} {hp : Hp} (h : AR P r N M c (Turned M Kn) fr hp) : AR P r N M c Kn fr hp := by
  rw [AR_iff] at h ⊢
  intro w0 ρ a w h1 h2 h3 h4 h5
  refine wpIn_mono (h w0 _ a w h1 h2 h3 h4 h5) ?_
  rintro e a' w' ⟨fr', hp', ρ', g, k1, k2, k3, k4, k5, k6⟩
  cases e with
  | normal =>
    simp only [Goes] at g
    unfold Turned at g
    obtain ⟨σ, fr'', hp'', q1, q2, q3, q4, q5⟩ := g
    exact ⟨fr'', hp'', _, q5, HSat_unren k1 q3, FSat_unren k2 q4, k3, k4, q2, fun b hb => by rw [q1 b hb]; exact k6 b hb⟩
  | _ => exact ⟨fr', hp', ρ', g, k1, k2, k3, k4, k5, k6⟩
theorem AR.drawT {r : Option Nat} {id : Nat} {ops : Array Oper} {keep : Nat → Bool} {Kn fr hp} (t : PT) (hm : P.follows .mixedOrders = true) (hT : TOk P T) (hnd : noDefer ops = true) (hplan : t.okB ops true = true) (hcov : coverPT ops t = true)
    (h : evPT (AC P) T N ops t [] fr hp fun fr' hp' => keepK keep fr' fun fr'' => Kn fr'' hp') : AR P r N M (.region id ops true) Kn fr hp := by
  rw [AR_iff]
  intro w0 ρ a w h1 h2 h3 h4 h5
  have key : wpAny P .any ops (PostN w0 N M ρ Kn) ops.size (Array.replicate ops.size false) a { w with drawn := w.drawn + 1 } := by
    have hs : HSat w0 ρ hp ({ w with drawn := w.drawn + 1 } : World) := h1.congr rfl rfl rfl rfl
    have hcov' := hcov
    simp only [coverPT, List.all_eq_true, List.mem_range, Bool.and_eq_true] at hcov'
    have hord : ∀ i, i < ops.size → ∀ e ∈ edgesB ops i, e < i := fun i hi e he => by simpa using (hcov' i hi).2 e he
    have h0 : ∀ i, (Array.replicate ops.size false).getD i false = false := by
      intro i
      rw [Array.getD_eq_getD_getElem?, Array.getElem?_replicate]
      split <;> rfl
    have hmid : Mid T N M ops t.path w0 ρ (Array.replicate ops.size false) t.path [] fr hp ρ a ({ w with drawn := w.drawn + 1 } : World) := by
      refine ⟨hs, h3, h4, h5, fun _ _ => rfl, by simp, ⟨[], rfl⟩, ?_, ?_, ?_, ?_, ?_⟩
      · intro i hi; rw [h0] at hi; cases hi
      · intro i hi _; exact .inl (hasNat_iff.1 (hcov' i hi).1)
      · intro i hi; simp at hi
      · intro i hi; simp at hi
      · intro t v hv _; exact h2 t v hv
    obtain ⟨t', pend', fr', g1, g2, g3, g4⟩ := Mid.aheadsT (P := P) (PT.path_ok hplan) hplan hmid h
    refine Mid.anyT hT hord ?_ _ _ t.path t' pend' fr' hp ρ a _ ?_ g1 (PT.path_ok hplan) g2 g3 g4
    · intro a w fr hp ρ' k1 k2 k3 k4 k5 k6 k7
      obtain ⟨fr'', k8, k9⟩ := keepK_sound k3 k1
      exact ⟨fr'', hp, ρ', k8, k2, k9, k4, k5, k6, k7⟩
    · exact Nat.le_trans (List.length_filter_le _ _) (by simp)
  refine wpIn_region_draw fun t => ?_
  simp only [Region.schedule, hm, Bool.true_or, if_true]
  have hops := wpAny_sound ops.size t _ a _ key
  have := wpOps_in (r := r) (n := 0) (noDefer_get hnd) PostN_out [] (Q := PostN w0 N M ρ Kn) (fun a w hq => by simp only [wpOpsIn]; exact hq) (fun ch a w hq => (PostN_panic hq).elim) _ a _ hops
  rw [List.append_nil] at this
  exact this
end
end Go.Aw
end

section
/-
  AwRf2: a range over a function, told by what its rounds do. Own work.
-/
set_option linter.unusedVariables false
set_option linter.unusedSimpArgs false
namespace Go.Aw
open Go
section
variable {P : Program} {T : Tab} {N M : Nat}

/-- neither cells, nor a map -/
def dullO : Obj → Bool
  | .loop _ => true
  | .deferred _ => true
  | _ => false
theorem ObjOk.dull_ne {ρ : Nat → Loc} {n : Nat} {w : World} {l : Loc} {ro : Bool} {o : AObj} (ho : ObjOk ρ n w l ro o) (hl : o.lv l = true) : ∃ ob, w.heap[l.blk]? = some ob ∧ dullO ob = false := by
  cases o with
  | gone => cases hl
  | ints k xs => obtain ⟨_, cells, ty, fz, h, _⟩ := ho hl; exact ⟨_, h, rfl⟩
  | var vs => obtain ⟨cells, ty, fz, h, _⟩ := ho; exact ⟨_, h, rfl⟩
  | row els => obtain ⟨cells, ty, fz, h, _⟩ := ho hl; exact ⟨_, h, rfl⟩
  | map k kn es clock => obtain ⟨ces, h, _⟩ := ho; exact ⟨_, h, rfl⟩
  | iter m since seen last => exact ⟨_, ho.2.2, rfl⟩
/-- the same memory, over another base, in another world: only dull blocks differ -/
theorem HSat.move {w0 : Base} {ρ : Nat → Loc} {hp : Hp} {w : World} (h : HSat w0 ρ hp w) {w1 : Base} {w' : World} (hsz : w.heap.size ≤ w'.heap.size) (hk : ∀ (k : Nat) ob, w.heap[k]? = some ob → dullO ob = false → w'.heap[k]? = some ob)
    (hF : ∀ i, w1.F i → i < w'.heap.size ∧ w'.heap[i]? = w1.heap[i]? ∧ (w0.F i ∨ ∀ ob, w.heap[i]? = some ob → dullO ob = true)) (hG : ∀ i, w0.F i → w1.F i ∨ ∀ ob, w.heap[i]? = some ob → dullO ob = true)
    (ht : w'.tape = w1.tape) (ho : w'.os = w1.os) (hu : w'.output = w1.output) : HSat w1 ρ hp w' := by
  refine ⟨fun i hi => (hF i hi).1, fun i hi => (hF i hi).2.1, ht, ho, hu, h.esz, ?_, ?_, h.views, ?_, h.apart⟩
  · intro b e hb
    by_cases hl : e.o.lv (ρ b) = true
    · obtain ⟨ob, g1, g2⟩ := (h.obj b e hb).dull_ne hl
      exact ObjOk_mono (Nat.le_refl _) (fun _ _ => rfl) ((hk _ _ g1 g2).trans g1.symm) (h.obj b e hb)
    · exact obj_dead hl
  · intro b e hb hr hl
    have h1 := h.own b e hb hr hl
    obtain ⟨ob, g1, g2⟩ := (h.obj b e hb).dull_ne hl
    refine ⟨fun g => ?_, by omega⟩
    rcases (hF _ g).2.2 with a | a
    · exact h1.1 a
    · rw [a ob g1] at g2; cases g2
  · intro b e hb hr hp hl
    obtain ⟨ob, g1, g2⟩ := (h.obj b e hb).dull_ne hl
    rcases hG _ (h.given b e hb hr hp hl) with a | a
    · exact a
    · rw [a ob g1] at g2; cases g2

/-- a state, blocks below M lying where 'ρ0' says -/
def KS (w0 : Base) (ρ0 : Nat → Loc) (N M : Nat) (fr : Fr) (hp : Hp) (a : Act) (w : World) : Prop :=
  ∃ ρ, (∀ b, b < M → ρ b = ρ0 b) ∧ HSat w0 ρ hp w ∧ FSat ρ hp.length fr a.tmps ∧ a.tmps.size = N ∧ a.defers = w0.ds ∧ M ≤ hp.length
@[irreducible] def AX (P : Program) (w0 : Base) (ρ0 : Nat → Loc) (N M : Nat) (c : Code) (Q : Exit → Act → World → Prop) (fr : Fr) (hp : Hp) : Prop :=
  ∀ a w, KS w0 ρ0 N M fr hp a w → c.wp P Q a w
theorem AX_iff {w0 : Base} {ρ0 : Nat → Loc} {c : Code} {Q : Exit → Act → World → Prop} {fr : Fr} {hp : Hp} : AX P w0 ρ0 N M c Q fr hp ↔ ∀ a w, KS w0 ρ0 N M fr hp a w → c.wp P Q a w := by
  unfold AX; exact Iff.rfl
theorem AX.pre {w0 : Base} {ρ0 : Nat → Loc} {x y : Code} {Q : Exit → Act → World → Prop} {R : Fr → Hp → Prop} {fr : Fr} {hp : Hp} (hR : ∀ fr hp a w, R fr hp → KS w0 ρ0 N M fr hp a w → Q .ret a w)
    (h : AW P N M x (fun fr hp => AX P w0 ρ0 N M y Q fr hp) [] (fun _ _ _ => False) R fr hp) : AX P w0 ρ0 N M (.seq x y) Q fr hp := by
  rw [AX_iff]
  rintro a w ⟨ρ, h1, h2, h3, h4, h5, h6⟩
  rw [AW_iff] at h
  refine wp_seq (wp_mono (h w0 ρ a w h2 h3 h4 h5 h6) ?_)
  rintro e a' w' ⟨fr', hp', ρ', g, k1, k2, k3, k4, k5, k6⟩
  have hks : KS w0 ρ0 N M fr' hp' a' w' := ⟨ρ', fun b hb => (k6 b hb).trans (h1 b hb), k1, k2, k3, k4, k5⟩
  cases e with
  | normal =>
    have g' : AX P w0 ρ0 N M y Q fr' hp' := g
    rw [AX_iff] at g'
    exact g' a' w' hks
  | ret => exact hR _ _ _ _ g hks
  | exit id => simp [Goes, List.find?] at g
  | _ => exact g.elim
theorem AX.last {w0 : Base} {ρ0 : Nat → Loc} {x : Code} {Q : Exit → Act → World → Prop} {Kn R : Fr → Hp → Prop} {fr : Fr} {hp : Hp} (hK : ∀ fr hp a w, Kn fr hp → KS w0 ρ0 N M fr hp a w → Q .normal a w) (hR : ∀ fr hp a w, R fr hp → KS w0 ρ0 N M fr hp a w → Q .ret a w)
    (h : AW P N M x Kn [] (fun _ _ _ => False) R fr hp) : AX P w0 ρ0 N M x Q fr hp := by
  rw [AX_iff]
  rintro a w ⟨ρ, h1, h2, h3, h4, h5, h6⟩
  rw [AW_iff] at h
  refine wp_mono (h w0 ρ a w h2 h3 h4 h5 h6) ?_
  rintro e a' w' ⟨fr', hp', ρ', g, k1, k2, k3, k4, k5, k6⟩
  have hks : KS w0 ρ0 N M fr' hp' a' w' := ⟨ρ', fun b hb => (k6 b hb).trans (h1 b hb), k1, k2, k3, k4, k5⟩
  cases e with
  | normal => exact hK _ _ _ _ g hks
  | ret => exact hR _ _ _ _ g hks
  | exit id => simp [Goes, List.find?] at g
  | _ => exact g.elim
theorem AX.turnL {w0 : Base} {ρ0 : Nat → Loc} {c : Code} {Q : Exit → Act → World → Prop} {fr : Fr} {hp : Hp} (sl : List Nat) (fr' : Fr) (hp' : Hp) (hfix : fixB 0 M sl = true) (hM : Nat.ble M hp'.length = true) (hn : noDup (liveOf sl hp') = true)
    (hh : seesT (sig sl 0) hp'.length hp hp' sl) (hf : fseesT (sig sl 0) hp'.length fr fr') (h : AX P w0 ρ0 N M c Q fr' hp') : AX P w0 ρ0 N M c Q fr hp := by
  rw [AX_iff] at h ⊢
  rintro a w ⟨ρ, h1, h2, h3, h4, h5, h6⟩
  refine h a w ⟨_, fun b hb => ?_, HSat_unren h2 (Sees.of sl hh hn), FSat_unren h3 (FSees.of hf), h4, h5, by simpa using hM⟩
  have : sig sl 0 b = b := by rw [fixB_sound 0 hfix b hb]; omega
  rw [this]; exact h1 b hb

/-- a mark, and no deferred call -/
abbrev markD (D : Nat) : Deferred := { target := .collected D, args := #[] }
def QD (w0 : Base) (ρ0 : Nat → Loc) (M : Nat) (T : Tab) (rs : List ResultVar) (K : AV → Hp → Prop) : Exit → Act → World → Prop := fun e a w =>
  (e = .normal ∨ e = .ret) ∧ ∃ fr hp ρ, resK T rs K fr hp ∧ HSat w0 ρ hp w ∧ FSat ρ hp.length fr a.tmps ∧ M ≤ hp.length ∧ (∀ b, b < M → ρ b = ρ0 b) ∧
    (a.defers = [] ∨ ∃ D, a.defers = [markD D] ∧ w.heap[D]? = some (.deferred (some [])) ∧ ¬ w0.F D)
theorem QD.ret {w0 : Base} {ρ0 : Nat → Loc} {rs : List ResultVar} {K : AV → Hp → Prop} (hds : w0.ds = []) : ∀ fr hp a w, resK T rs K fr hp → KS w0 ρ0 N M fr hp a w → QD w0 ρ0 M T rs K .ret a w := by
  rintro fr hp a w hr ⟨ρ, h1, h2, h3, h4, h5, h6⟩
  exact ⟨.inr rfl, fr, hp, ρ, hr, h2, h3, h6, h1, .inl (h5.trans hds)⟩
/-- the base behind a range over a function -/
structure Behind (w0 wD : Base) (D : Nat) : Prop where
  ds : wD.ds = [markD D]
  F : ∀ i, wD.F i ↔ w0.F i ∨ i = D
  blk : wD.heap[D]? = some (.deferred (some []))
  nD : ¬ w0.F D
  old : ∀ i, w0.F i → wD.heap[i]? = w0.heap[i]?
  tape : wD.tape = w0.tape
  os : wD.os = w0.os
  out : wD.output = w0.output
theorem Behind.back {w0 wD : Base} {D : Nat} (hB : Behind w0 wD D) {ρ : Nat → Loc} {hp : Hp} {w : World} (h : HSat wD ρ hp w) : HSat w0 ρ hp w ∧ w.heap[D]? = some (.deferred (some [])) := by
  have hD := (h.old D ((hB.F D).2 (.inr rfl))).trans hB.blk
  refine ⟨h.move (Nat.le_refl _) (fun _ _ g _ => g) (fun i hi => ?_) (fun i hi => ?_) (h.tape.trans hB.tape) (h.os.trans hB.os) (h.out.trans hB.out), hD⟩
  · have hi' := (hB.F i).2 (.inl hi)
    exact ⟨h.size i hi', (h.old i hi').trans (hB.old i hi), .inl hi'⟩
  · rcases (hB.F i).1 hi with g | g
    · exact .inl g
    · subst g
      exact .inr fun ob ho => by rw [hD] at ho; cases ho; rfl
theorem QD.behind {w0 wD : Base} {D : Nat} (hB : Behind w0 wD D) {ρ0 : Nat → Loc} {rs : List ResultVar} {K : AV → Hp → Prop} : ∀ fr hp a w, resK T rs K fr hp → KS wD ρ0 N M fr hp a w → QD w0 ρ0 M T rs K .ret a w := by
  rintro fr hp a w hr ⟨ρ, h1, h2, h3, h4, h5, h6⟩
  obtain ⟨g1, g2⟩ := hB.back h2
  exact ⟨.inr rfl, fr, hp, ρ, hr, g1, h3, h6, h1, .inr ⟨D, h5.trans hB.ds, g2, hB.nD⟩⟩

/-- a function's contract, from a body that may hold a range over a function -/
theorem AC.bodyX (hT : TOk P T) {f : FuncId} {fn : Func} {c : Code} {args : List AV} {hp : Hp} {K : AV → Hp → Prop} {rs : List ResultVar} (hf : P.funcs[f]? = some fn) (hb : fn.body = some c) (hN : fn.ntmps = N) (hrs : fn.results.toList = rs)
    (hname : (fn.name == "runtime.NumGoroutine") = false) (hargs : Nat.ble args.length N = true)
    (h : ∀ (w0 : Base) (ρ0 : Nat → Loc), w0.ds = [] → AX P w0 ρ0 N hp.length c (QD w0 ρ0 hp.length T rs K) (frOf 0 args) hp) : AC P f args hp K := by
  subst hN; subst hrs
  have hargs : args.length ≤ fn.ntmps := by simpa using hargs
  unfold AC
  refine ⟨⟨fn, hf, hname, by simp [hb]⟩, fun w0 ρ w vs h1 h2 => ?_⟩
  have hl := VRs_length h2
  refine (callsIn_wide (n := 0)).1 (callsIn_of_wp_marks hf hb trivial (wpIn_wide.2 ?_) rfl)
  have h := h { w0 with ds := [] } ρ rfl
  rw [AX_iff] at h
  refine wp_mono (h _ w ⟨ρ, fun _ _ => rfl, h1.base [], ?_, ?_, rfl, Nat.le_refl _⟩) ?_
  · intro t v hv
    obtain ⟨_, hv⟩ := frOf_find _ _ _ _ hv
    rw [Nat.sub_zero] at hv
    obtain ⟨c, hc, hvc⟩ := VRs_get h2 hv
    have : (vs.toArray ++ Array.replicate (fn.ntmps - vs.toArray.size) undef).getD t undef = c := by
      have ht : t < vs.length := by
        rcases Nat.lt_or_ge t vs.length with g | g
        · exact g
        · rw [List.getElem?_eq_none g] at hc; cases hc
      rw [Array.getD_eq_getD_getElem?, Array.getElem?_append_left (by simpa using ht)]
      simp [hc]
    simp only [this]; exact hvc
  · simp; omega
  · rintro e a' w' ⟨he, fr', hp', ρ', g, k1, k2, k3, k4, k5⟩
    have goal : LeavesInM Fence.wide 0 P fn a'.tmps (fun e w' => ∃ (r : AV) (v : Value) (hp' : Hp) (ρ' : Nat → Loc), e = .returned v ∧ K r hp' ∧ VR ρ' hp'.length r v ∧ HSat w0 ρ' hp' w' ∧ hp.length ≤ hp'.length ∧ ∀ b, b < hp.length → ρ' b = ρ b) a'.defers .returning w' := by
      rcases k5 with k5 | ⟨D, k5, k6, k7⟩
      · rw [k5]
        obtain ⟨v, cv, q1, q2, q3⟩ := resK_sound hT k1 k2 g
        exact ⟨cv, q3, v, cv, hp', ρ', rfl, q1, q2, k1.base w0.ds, k3, k4⟩
      · rw [k5]
        have k1' : HSat { w0 with ds := [] } ρ' hp' (w'.putObj D (.deferred none)) := by
          refine k1.move (by simp) (fun k ob g1 g2 => ?_) (fun i hi => ?_) (fun i hi => .inl hi) k1.tape k1.os k1.out
          · rw [World.putObj_heap_other]
            · exact g1
            · intro hkD; subst hkD; rw [k6] at g1; cases g1; cases g2
          · have hne : i ≠ D := fun q => k7 (q ▸ hi)
            exact ⟨by simpa using k1.size i hi, (World.putObj_heap_other hne).trans (k1.old i hi), .inl hi⟩
        obtain ⟨v, cv, q1, q2, q3⟩ := resK_sound hT k1' k2 g
        refine ⟨by simp, .inl ⟨D, _, rfl, run_takeDeferred k6, ?_⟩⟩
        exact ⟨cv, q3, v, cv, hp', ρ', rfl, q1, q2, k1'.base w0.ds, k3, k4⟩
    rcases he with rfl | rfl <;> exact goal

theorem alloc_old (w : World) (o : Obj) (i : Nat) (h : i < w.heap.size) : (w.alloc o).heap[i]? = w.heap[i]? := by
  show (w.heap.push o)[i]? = _
  rw [Array.getElem?_push, if_neg (by omega)]
/-- a value that points below M alone, told where 'ρ0' says -/
theorem VR_low {ρ ρ' : Nat → Loc} {n n' : Nat} {v : AV} {c : Value} (hv : v.inn M) (h : VR ρ n v c) (hρ : ∀ b, b < M → ρ' b = ρ b) (hn : M ≤ n') : VR ρ' n' v c := by
  have h1 : VR ρ M v c := by
    refine VR_unren (ρ1 := ρ) (σ := id) (n1 := n) (fun _ _ => rfl) v c hv ?_
    rw [AV.ren_fix (σ := id) (k := M) (fun _ _ => rfl) v hv]; exact h
  exact VR_mono hn hρ v c h1
theorem find_inn {fr : Fr} (h : ∀ x ∈ fr, x.2.inn M) : ∀ {t : Nat} {v : AV}, Fr.find fr t = some v → v.inn M := by
  induction fr with
  | nil => intro t v h; cases h
  | cons x r ih =>
    intro t v hf
    simp only [Fr.find] at hf
    split at hf
    · cases hf; exact h x (.head _)
    · exact ih (fun y hy => h y (.tail _ hy)) hf

theorem putObj_same {w : World} {l : Nat} {o : Obj} (h : w.heap[l]? = some o) : w.putObj l o = w := by
  have : w.heap.setIfInBounds l o = w.heap := by
    apply Array.ext_getElem?
    intro i
    by_cases hi : i = l
    · subst hi
      have h1 := heap_lt h
      have h2 := (Array.getElem?_eq_some_iff.1 h).2
      rw [Array.getElem?_setIfInBounds_self_of_lt h1, h]
    · rw [Array.getElem?_setIfInBounds_ne (Ne.symm hi)]
  unfold World.putObj
  rw [this]
theorem putObj_twice {w : World} {l : Nat} {o o' : Obj} : (w.putObj l o).putObj l o' = w.putObj l o' := by
  have : (w.heap.setIfInBounds l o).setIfInBounds l o' = w.heap.setIfInBounds l o' := by
    apply Array.ext_getElem?
    intro i
    by_cases hi : i = l
    · subst hi; simp only [Array.getElem?_setIfInBounds, Array.size_setIfInBounds]; split <;> rfl
    · rw [Array.getElem?_setIfInBounds_ne (Ne.symm hi), Array.getElem?_setIfInBounds_ne (Ne.symm hi), Array.getElem?_setIfInBounds_ne (Ne.symm hi)]
  unfold World.putObj
  simp only [this]
/-- the record turned, in the world and in the base -/
theorem HSat.turnRec {w1 : Base} {ρ : Nat → Loc} {hp : Hp} {W : World} (h : HSat w1 ρ hp W) {l : Nat} {o o' : Obj} (hl : W.heap[l]? = some o) (hd : dullO o = true) (W1 : World) (hW : w1.toWorld = W1) :
    HSat { w1 with toWorld := W1.putObj l o' } ρ hp (W.putObj l o') := by
  subst hW
  refine h.move (by simp) (fun k ob g1 g2 => ?_) (fun i hi => ?_) (fun i hi => .inl hi) h.tape h.os h.out
  · rw [World.putObj_heap_other]
    · exact g1
    · intro q; subst q; rw [hl] at g1; cases g1; rw [hd] at g2; cases g2
  · have hi' : w1.F i := hi
    refine ⟨by simpa using h.size i hi', ?_, .inl hi'⟩
    have hold := h.old i hi'
    by_cases q : i = l
    · subst q
      have g1 := heap_lt hl
      have g2 : i < w1.heap.size := by rw [hl] at hold; exact heap_lt hold.symm
      rw [World.putObj_heap_same g1]
      exact (World.putObj_heap_same g2).symm
    · rw [World.putObj_heap_other q]
      exact hold.trans (World.putObj_heap_other q).symm
/-- what is known of one call of yield: the state J goes on by one -/
abbrev YieldsTo (P : Program) (M : Nat) (ρ0 : Nat → Loc) (J : Nat → Hp → Prop) (ys : Nat → List AV) (n : Nat) (w1 : Base) (l : Nat) : Prop :=
  ∀ (j : Nat) (hp : Hp) (ρ : Nat → Loc) (W : World) (vs : List Value), j < n → J j hp → (∀ b, b < M → ρ b = ρ0 b) → HSat w1 ρ hp W → M ≤ hp.length → VRs ρ hp.length (ys j) vs →
    YieldAt Fence.wide 0 P l vs.toArray W fun e W' => e = .returned (.bool true) ∧ ∃ hp' ρ', J (j + 1) hp' ∧ (∀ b, b < M → ρ' b = ρ0 b) ∧ HSat w1 ρ' hp' W' ∧ M ≤ hp'.length
abbrev Walks (P : Program) (f : FuncId) (caps : List AV) (M : Nat) (ρ0 : Nat → Loc) (J : Nat → Hp → Prop) (ys : Nat → List AV) (n : Nat) : Prop :=
  ∀ (w1 : Base) (l : Nat) (hp : Hp) (ρ : Nat → Loc) (W : World) (cs : List Value), w1.ds = [] → J 0 hp → (∀ b, b < M → ρ b = ρ0 b) → HSat w1 ρ hp W → M ≤ hp.length → VRs ρ hp.length caps cs → YieldsTo P M ρ0 J ys n w1 l →
    CallsIn Fence.wide 0 P f (#[.func (.yield l) #[] #[]] ++ cs.toArray) W fun e W' => (∃ v, e = .returned v) ∧ ∃ hp' ρ', J n hp' ∧ (∀ b, b < M → ρ' b = ρ0 b) ∧ HSat w1 ρ' hp' W' ∧ M ≤ hp'.length

theorem AX.range {w0 : Base} {ρ0 : Nat → Loc} {id t p q : Nat} {assign body : Code} {Q : Exit → Act → World → Prop} {fr : Fr} {hp : Hp} {f : FuncId} {caps : List AV} (J : Nat → Hp → Prop) (y0 y1 : Nat → AV) (n : Nat) {fn : Func}
    (hds : w0.ds = []) (ht : Fr.find fr t = some (.fn f caps)) (hin : ∀ x ∈ fr, x.2.inn M) (hfn : P.funcs[f]? = some fn) (hname : (fn.name == "runtime.NumGoroutine") = false) (hbody : fn.body.isNone = false)
    (hpq : p ≠ q) (hpN : p < N) (hqN : q < N) (h0 : J 0 hp) (hit : Walks P f caps M ρ0 J (fun j => [y0 j, y1 j]) n)
    (hround : ∀ l j hp, j < n → J j hp → AR P (some l) N M assign (fun fr' hp' => AR P (some l) N M body (fun _ hp'' => J (j + 1) hp'') fr' hp') ((p, y0 j) :: (q, y1 j) :: fr) hp)
    (hdone : ∀ (wD : Base) (D : Nat) hp', Behind w0 wD D → J n hp' → ∀ a w, KS wD ρ0 N M fr hp' a w → Q .normal a w) :
    AX P w0 ρ0 N M (.block id (.rangeFunc (.tmp t) #[p, q] assign body)) Q fr hp := by
  rw [AX_iff]
  rintro a w ⟨ρ, h1, h2, h3, h4, h5, h6⟩
  refine wp_block ((wpIn_wide (n := 0)).1 (wpIn_rangeFunc ?_))
  intro g hg
  have hv := h3 t _ ht
  have hvi := find_inn hin ht
  simp only [VR] at hv
  obtain ⟨cs, hv1, hv2⟩ := hv
  simp only [AV.inn] at hvi
  obtain ⟨rec, hrec⟩ : ∃ rec : LoopState → Option Code → Loop, rec = fun st pe => { state := st, pending := pe, fn := g, tmps := a.tmps, params := #[p, q], assign, body, defers := w.heap.size } := ⟨_, rfl⟩
  obtain ⟨W1, hW1⟩ : ∃ W1, (w.alloc (.deferred (some []))).alloc (.loop (rec .ready none)) = W1 := ⟨_, rfl⟩
  have hL1 : W1.heap[w.heap.size + 1]? = some (.loop (rec .ready none)) := by
    rw [← hW1]; have := World.alloc_heap_new (w.alloc (.deferred (some []))) (.loop (rec .ready none)); rwa [World.size_alloc] at this
  have hK1 : W1.heap[w.heap.size]? = some (.deferred (some [])) := by
    rw [← hW1]; exact (alloc_old _ _ _ (by simp)).trans (World.alloc_heap_new w _)
  have hkeep : ∀ i, i < w.heap.size → W1.heap[i]? = w.heap[i]? := fun i hi => by
    rw [← hW1]; exact (alloc_old _ _ _ (by simp; omega)).trans (alloc_old _ _ _ hi)
  have hsz1 : w.heap.size + 2 = W1.heap.size := by rw [← hW1]; simp
  -- the base of the walk
  obtain ⟨w1, hw1⟩ : ∃ w1 : Base, w1 = { toWorld := W1, F := fun i => w0.F i ∨ i = w.heap.size ∨ i = w.heap.size + 1, ds := [] } := ⟨_, rfl⟩
  have hs1 : HSat w1 ρ hp W1 := by
    subst hw1
    refine h2.move (by omega) (fun k ob g1 _ => (hkeep k (heap_lt g1)).trans g1) (fun i hi => ?_) (fun i hi => .inl (.inl hi)) rfl rfl rfl
    rcases hi with hi | hi | hi
    · exact ⟨by have := h2.size i hi; omega, rfl, .inl hi⟩
    · subst hi; exact ⟨by omega, rfl, .inr fun ob ho => absurd (heap_lt ho) (by omega)⟩
    · subst hi; exact ⟨by omega, rfl, .inr fun ob ho => absurd (heap_lt ho) (by omega)⟩
  have hlF : w1.F (w.heap.size + 1) := by subst hw1; exact .inr (.inr rfl)
  have hDF : w1.F w.heap.size := by subst hw1; exact .inr (.inl rfl)
  have hw1W : w1.toWorld = W1 := by subst hw1; rfl
  have hw1d : w1.ds = [] := by subst hw1; rfl
  have hrecAt : ∀ {ρ : Nat → Loc} {hp : Hp} {W : World}, HSat w1 ρ hp W → W.heap[w.heap.size + 1]? = some (.loop (rec .ready none)) := fun h => (h.old _ hlF).trans (by rw [hw1W]; exact hL1)
  have hDAt : ∀ {ρ : Nat → Loc} {hp : Hp} {W : World}, HSat w1 ρ hp W → W.heap[w.heap.size]? = some (.deferred (some [])) := fun h => (h.old _ hDF).trans (by rw [hw1W]; exact hK1)
  refine ⟨w.heap.size + 1, [markD w.heap.size], W1, { target := .fn (.func f) cs.toArray, args := #[.func (.yield (w.heap.size + 1)) #[] #[]] }, W1, f,
    #[.func (.yield (w.heap.size + 1)) #[] #[]] ++ cs.toArray, W1, ?_, ?_, fun _ _ => trivial, ?_, fun hd => by simp [Fence.wide] at hd, ?_⟩
  · rw [← hW1, hrec]; exact run_enterLoop_outer _ _ _ _ _
  · have hev : a.eval (.tmp t) = .func (.func f) #[] cs.toArray := hv1
    simp only [resolve, rangeCall, hev]
    simp [go_sem]
  · simp only [invoke, callFunc, run_program, Sem.run_bind, Sem.run_pure, Result.andThen_ok, hfn, hname, hbody]
    simp
  · have hY : YieldsTo P M ρ0 J (fun j => [y0 j, y1 j]) n w1 (w.heap.size + 1) := by
      intro j hp ρ W vs hj hJ hρ hs hM hvs
      have hlW := hrecAt hs
      simp only [VRs] at hvs
      obtain ⟨c0, _, rfl, hc0, c1, _, rfl, hc1, rfl⟩ := hvs
      have hy := run_yield (P := P) (args := #[c0, c1]) hlW (by rw [hrec]; rfl)
      refine ⟨_, _, _, _, hy, roundIn_of_wpIn trivial ?_⟩
      have hAR := hround (w.heap.size + 1) j hp hj hJ
      rw [AR_iff] at hAR
      have hassign := hAR w1 ρ { tmps := ((#[p, q] : Array Nat).zip #[c0, c1]).foldl (fun t (x : Nat × Value) => t.setIfInBounds x.1 x.2) a.tmps, defers := [] } W hs ?_ ?_ hw1d.symm hM
      · rw [hrec]
        refine wpIn_mono hassign ?_
        rintro e a' w' ⟨fr', hp', ρ', g, k1, k2, k3, k4, k5, k6⟩
        cases e with
        | normal =>
          have g' : AR P (some (w.heap.size + 1)) N M body (fun _ hp'' => J (j + 1) hp'') fr' hp' := g
          rw [AR_iff] at g'
          have hl2 := hrecAt k1
          refine ⟨_, run_beginRound hl2 (by rw [hrec]), ?_⟩
          have hs2 := k1.turnRec (o' := .loop { rec .ready none with state := .busy }) hl2 rfl W1 hw1W
          refine wpIn_mono (g' _ ρ' a' _ hs2 k2 k3 (k4.trans rfl) k5) ?_
          rintro e a3 W3 ⟨fr3, hp3, ρ3, g3, m1, m2, m3, m4, m5, m6⟩
          cases e with
          | normal =>
            have hb3 : W3.heap[w.heap.size + 1]? = some (.loop { rec .ready none with state := .busy }) := by
              refine (m1.old _ hlF).trans ?_
              exact World.putObj_heap_same (by omega)
            have hend := run_endRound (P := P) none hb3
            refine ⟨_, _, hend, rfl, hp3, ρ3, g3, fun b hb => (m6 b hb).trans ((k6 b hb).trans (hρ b hb)), ?_, m5⟩
            have hs3 := m1.turnRec (o' := .loop (rec .ready none)) hb3 rfl _ rfl
            simp only [putObj_twice] at hs3
            rw [putObj_same hL1] at hs3
            have e1 : ({ w1 with toWorld := W1 } : Base) = w1 := by rw [← hw1W]
            rw [e1] at hs3
            have e2 : (Loop.mk .ready none (rec .ready none).fn (rec .ready none).tmps (rec .ready none).params (rec .ready none).assign (rec .ready none).body (rec .ready none).defers) = rec .ready none := by rw [hrec]
            exact e2 ▸ hs3
          | exit id => simp [Goes, List.find?] at g3
          | _ => exact g3.elim
        | exit id => simp [Goes, List.find?] at g
        | _ => exact g.elim
      · intro u v hu
        simp only [Fr.find] at hu
        have htm : ((#[p, q] : Array Nat).zip #[c0, c1]).foldl (fun t (x : Nat × Value) => t.setIfInBounds x.1 x.2) a.tmps = (a.tmps.setIfInBounds p c0).setIfInBounds q c1 := by simp
        rw [htm]
        cases hb1 : Nat.beq p u with
        | true =>
          rw [hb1] at hu
          have hup := Nat.eq_of_beq_eq_true hb1
          subst hup
          cases hu
          rw [Array.getD_eq_getD_getElem?, Array.getElem?_setIfInBounds_ne (Ne.symm hpq)]
          simp [h4, hpN]
          exact hc0
        | false =>
          rw [hb1] at hu
          cases hb2 : Nat.beq q u with
          | true =>
            rw [hb2] at hu
            have hup := Nat.eq_of_beq_eq_true hb2
            subst hup
            cases hu
            rw [Array.getD_eq_getD_getElem?]
            simp [h4, hqN]
            exact hc1
          | false =>
            rw [hb2] at hu
            have n1 : p ≠ u := fun e => by rw [e, Nat.beq_refl] at hb1; cases hb1
            have n2 : q ≠ u := fun e => by rw [e, Nat.beq_refl] at hb2; cases hb2
            rw [Array.getD_eq_getD_getElem?, Array.getElem?_setIfInBounds_ne n2, Array.getElem?_setIfInBounds_ne n1, ← Array.getD_eq_getD_getElem?]
            exact VR_low (find_inn hin hu) (h3 u v hu) (fun b hb => (hρ b hb).trans (h1 b hb).symm) hM
      · simp [h4]
    refine (hit w1 (w.heap.size + 1) hp ρ W1 cs hw1d h0 h1 hs1 h6 hv2 hY).mono ?_
    rintro e W2 ⟨⟨v, rfl⟩, hp', ρ', hJ, hρ', hs2, hM'⟩
    have hl2 := hrecAt hs2
    have hD2 := hDAt hs2
    have hend := run_endLoop (P := P) hl2 (by rw [hrec]; simp)
    obtain ⟨W4, hW4⟩ : ∃ W4, W2.putObj (w.heap.size + 1) (.loop { rec .ready none with state := .exhausted }) = W4 := ⟨_, rfl⟩
    have hpe : (rec .ready none).pending = none := by rw [hrec]
    refine ⟨none, W4, by rw [hend, hW4, hpe], ?_⟩
    have hD4 : W4.heap[w.heap.size]? = some (.deferred (some [])) := by rw [← hW4]; exact (World.putObj_heap_other (by omega)).trans hD2
    have hB : Behind w0 { toWorld := W4, F := fun i => w0.F i ∨ i = w.heap.size, ds := [markD w.heap.size] } w.heap.size := by
      have hlow : ∀ i, w0.F i → i < w.heap.size := fun i hi => h2.size i hi
      have hw0 : ∀ i, w0.F i → w1.F i := fun i hi => by subst hw1; exact .inl hi
      refine ⟨rfl, fun i => Iff.rfl, hD4, fun g => by have := hlow _ g; omega, fun i hi => ?_, ?_, ?_, ?_⟩
      · have := hlow i hi
        show W4.heap[i]? = _
        rw [← hW4, World.putObj_heap_other (by omega), hs2.old i (hw0 i hi), hw1W, hkeep i this]
        exact h2.old i hi
      · show W4.tape = _
        rw [← hW4]; exact (hs2.tape.trans (by rw [hw1W, ← hW1]; rfl)).trans h2.tape
      · show W4.os = _
        rw [← hW4]; exact (hs2.os.trans (by rw [hw1W, ← hW1]; rfl)).trans h2.os
      · show W4.output = _
        rw [← hW4]; exact (hs2.out.trans (by rw [hw1W, ← hW1]; rfl)).trans h2.out
    refine hdone _ w.heap.size hp' hB hJ _ W4 ⟨ρ', hρ', ?_, ?_, h4, ?_, hM'⟩
    · refine hs2.move (by rw [← hW4]; simp) (fun k ob g1 g2 => ?_) (fun i hi => ?_) (fun i hi => ?_) rfl rfl rfl
      · rw [← hW4, World.putObj_heap_other]
        · exact g1
        · intro q; subst q; rw [hl2] at g1; cases g1; cases g2
      · rcases hi with hi | hi
        · refine ⟨?_, rfl, .inl (by subst hw1; exact .inl hi)⟩
          have := hs2.size i (by subst hw1; exact .inl hi)
          rw [← hW4]; simpa using this
        · subst hi; exact ⟨heap_lt hD4, rfl, .inr fun ob ho => by rw [hD2] at ho; cases ho; rfl⟩
      · subst hw1
        rcases hi with hi | hi | hi
        · exact .inl (.inl hi)
        · exact .inl (.inr hi)
        · subst hi; exact .inr fun ob ho => by rw [hl2] at ho; cases ho; rfl
    · intro u v hu
      exact VR_low (find_inn hin hu) (h3 u v hu) (fun b hb => (hρ' b hb).trans (h1 b hb).symm) hM'
    · show [markD w.heap.size] ++ a.defers = _
      rw [h5, hds]; rfl
end
end Go.Aw
end

section
/-
  AwRf3: a function that calls the function it is handed: rules. Own work.
-/
set_option linter.unusedVariables false
set_option linter.unusedSimpArgs false
namespace Go.Aw
open Go
section
variable {P : Program} {T : Tab} {N M : Nat} {w0 : Base} {ρ0 : Nat → Loc}

theorem AX.seq {x y : Code} {Q : Exit → Act → World → Prop} {fr : Fr} {hp : Hp} (I : Fr → Hp → Prop)
    (h : AX P w0 ρ0 N M x (Exit.then (fun a w => ∃ fr hp, I fr hp ∧ KS w0 ρ0 N M fr hp a w) Q) fr hp) (h' : ∀ fr hp, I fr hp → AX P w0 ρ0 N M y Q fr hp) : AX P w0 ρ0 N M (.seq x y) Q fr hp := by
  rw [AX_iff] at h ⊢
  intro a w hk
  refine wp_seq (wp_mono (h a w hk) ?_)
  intro e a' w' hq
  cases e with
  | normal =>
    obtain ⟨fr', hp', g1, g2⟩ := hq
    have := h' fr' hp' g1
    rw [AX_iff] at this
    exact this a' w' g2
  | _ => exact hq
theorem AX.seqW {x z : Code} {Q : Exit → Act → World → Prop} {fr : Fr} {hp : Hp} (h : AX P w0 ρ0 N M x (Exit.then (fun a w => z.wp P Q a w) Q) fr hp) : AX P w0 ρ0 N M (.seq x z) Q fr hp := by
  rw [AX_iff] at h ⊢
  exact fun a w hk => wp_seq (h a w hk)
theorem AX.cond {c : Operand} {x y : Code} {Q : Exit → Act → World → Prop} {fr : Fr} {hp : Hp} (h : avK fr c fun g => (match g with
    | .bool g => (match g with | true => AX P w0 ρ0 N M x Q fr hp | false => AX P w0 ρ0 N M y Q fr hp)
    | _ => False)) : AX P w0 ρ0 N M (.cond c x y) Q fr hp := by
  rw [AX_iff]
  rintro a w ⟨ρ, h1, h2, h3, h4, h5, h6⟩
  obtain ⟨g, k1, k2⟩ := avK_sound h3 h
  split at k1
  case h_2 => exact k1.elim
  rename_i g
  simp only [VR] at k2
  refine wp_cond k2 ?_
  split at k1
  · rw [AX_iff] at k1
    exact k1 a w ⟨ρ, h1, h2, h3, h4, h5, h6⟩
  · rw [AX_iff] at k1
    exact k1 a w ⟨ρ, h1, h2, h3, h4, h5, h6⟩
theorem AX.skip {Q : Exit → Act → World → Prop} {fr : Fr} {hp : Hp} (h : ∀ a w, KS w0 ρ0 N M fr hp a w → Q .normal a w) : AX P w0 ρ0 N M .skip Q fr hp := by
  rw [AX_iff]; exact fun a w hk => wp_skip (h a w hk)
theorem AX.exit {id : Nat} {Q : Exit → Act → World → Prop} {fr : Fr} {hp : Hp} (h : ∀ a w, KS w0 ρ0 N M fr hp a w → Q (.exit id) a w) : AX P w0 ρ0 N M (.exit id) Q fr hp := by
  rw [AX_iff]; exact fun a w hk => wp_exit (h a w hk)
theorem AX.block {id : Nat} {c : Code} {Q : Exit → Act → World → Prop} {fr : Fr} {hp : Hp} (h : AX P w0 ρ0 N M c (Exit.inBlock id Q) fr hp) : AX P w0 ρ0 N M (.block id c) Q fr hp := by
  rw [AX_iff] at h ⊢; exact fun a w hk => wp_block (h a w hk)
theorem AX.loop {c : Code} {Q : Exit → Act → World → Prop} {fr : Fr} {hp : Hp} (I : Nat → Fr → Hp → Prop) (n : Nat) (h0 : I n fr hp)
    (round : ∀ n fr hp, I n fr hp → AX P w0 ρ0 N M c (Exit.then (fun a w => ∃ m, m < n ∧ ∃ fr hp, I m fr hp ∧ KS w0 ρ0 N M fr hp a w) Q) fr hp) : AX P w0 ρ0 N M (.loop c) Q fr hp := by
  rw [AX_iff]
  intro a w hk
  refine wp_loop_ind (fun n a w => ∃ fr hp, I n fr hp ∧ KS w0 ρ0 N M fr hp a w) (n := n) ⟨fr, hp, h0, hk⟩ ?_
  rintro n a w ⟨fr, hp, g0, g1⟩
  have := round n fr hp g0
  rw [AX_iff] at this
  refine wp_mono (this a w g1) ?_
  intro e a' w' hq
  cases e with
  | normal =>
    obtain ⟨m, hm, fr', hp', q1, q2⟩ := hq
    exact ⟨m, hm, fr', hp', q1, q2⟩
  | _ => exact hq
theorem AX.cutT {x y : Code} {Q : Exit → Act → World → Prop} {R : Fr → Hp → Prop} {fr : Fr} {hp : Hp} (hR : ∀ fr hp a w, R fr hp → KS w0 ρ0 N M fr hp a w → Q .ret a w) (I : Fr → Hp → Prop)
    (h : AW P N M x (Turned M I) [] (fun _ _ _ => False) R fr hp) (h' : ∀ fr hp, I fr hp → AX P w0 ρ0 N M y Q fr hp) : AX P w0 ρ0 N M (.seq x y) Q fr hp :=
  AX.pre hR (AW.post (AW.mono h fun fr hp g => by
    unfold Turned at g ⊢
    obtain ⟨σ, fr', hp', a, b, c, d, e⟩ := g
    exact ⟨σ, fr', hp', a, b, c, d, h' _ _ e⟩))
/-- the first so many of a row -/
theorem HSat.shorten {w0 : Base} {ρ : Nat → Loc} {hp : Hp} {w : World} (h1 : HSat w0 ρ hp w) (y n : Nat) (esz : Nat) (ro : Bool) (par : Option Nat) (els : List (List AV)) (h0 : 0 < esz) (he : hp[y]? = some ⟨esz, ro, par, .row els⟩) :
    HSat w0 ρ (hp.set y ⟨esz, ro, par, .row (els.take n)⟩) w := by
  have hobj := h1.obj y _ he
  have hesz := h1.esz y _ he
  have hlv : (AObj.row (els.take n)).lv (ρ y) = (AObj.row els).lv (ρ y) := by
    rcases els with _ | ⟨x, r⟩
    · simp
    · obtain ⟨cells, ty, fz, q1, q2, q3, q4, q5⟩ := hobj (by simp [AObj.lv])
      have : (ρ y).base < (ρ y).tot := by
        rw [q2]
        simp only [List.length_cons, Nat.add_mul, Nat.one_mul] at q4
        have : (ρ y).esz = esz := hesz
        omega
      simp only [AObj.lv, List.isEmpty_cons, Bool.false_and, Bool.not_false]
      rw [show decide ((ρ y).tot ≤ (ρ y).base) = false from decide_eq_false (by omega), Bool.and_false]
      rfl
  exact h1.swap he (.row (els.take n)) hlv (by
    intro g hl
    rw [hlv] at hl
    obtain ⟨cells, ty, fz, q1, q2, q3, q4, q5⟩ := g hl
    refine ⟨cells, ty, fz, q1, q2, q3, ?_, ?_⟩
    · have : (els.take n).length * (ρ y).esz ≤ els.length * (ρ y).esz := Nat.mul_le_mul_right _ (by rw [List.length_take]; omega)
      omega
    · intro i x hx
      rw [List.getElem?_take] at hx
      split at hx
      · exact q5 i x hx
      · cases hx)
theorem AX.shorten {c : Code} {Q : Exit → Act → World → Prop} {fr : Fr} {hp : Hp} (y n : Nat) (esz : Nat) (ro : Bool) (par : Option Nat) (els : List (List AV)) (hp' : Hp) (h0 : 0 < esz) (he : hp[y]? = some ⟨esz, ro, par, .row els⟩)
    (hh : hp.set y ⟨esz, ro, par, .row (els.take n)⟩ = hp') (h : AX P w0 ρ0 N M c Q fr hp') : AX P w0 ρ0 N M c Q fr hp := by
  subst hh
  rw [AX_iff] at h ⊢
  rintro a w ⟨ρ, h1, h2, h3, h4, h5, h6⟩
  exact h a w ⟨ρ, h1, h2.shorten y n esz ro par els h0 he, by rw [List.length_set]; exact h3, h4, h5, by rw [List.length_set]; exact h6⟩
theorem KS.less {M' : Nat} {ρ1 : Nat → Loc} {fr : Fr} {hp : Hp} {a : Act} {w : World} (h : KS w0 ρ1 N M' fr hp a w) (hle : M ≤ M') (hρ : ∀ b, b < M → ρ1 b = ρ0 b) : KS w0 ρ0 N M fr hp a w := by
  obtain ⟨ρ, h1, h2, h3, h4, h5, h6⟩ := h
  exact ⟨ρ, fun b hb => (h1 b (by omega)).trans (hρ b hb), h2, h3, h4, h5, by omega⟩
theorem AX.more (M' : Nat) {c : Code} {Q : Exit → Act → World → Prop} {fr : Fr} {hp : Hp} (hM : Nat.ble M' hp.length = true) (hle : Nat.ble M M' = true) (h : ∀ ρ1, (∀ b, b < M → ρ1 b = ρ0 b) → AX P w0 ρ1 N M' c Q fr hp) : AX P w0 ρ0 N M c Q fr hp := by
  have hle := Nat.le_of_ble_eq_true hle
  have hM := Nat.le_of_ble_eq_true hM
  rw [AX_iff]
  rintro a w ⟨ρ, h1, h2, h3, h4, h5, h6⟩
  have h := h ρ h1
  rw [AX_iff] at h
  exact h a w ⟨ρ, fun _ _ => rfl, h2, h3, h4, h5, hM⟩
theorem KS.sub {fr fr' : Fr} {hp : Hp} {a : Act} {w : World} (h : KS w0 ρ0 N M fr hp a w) (hs : ∀ t v, Fr.find fr' t = some v → Fr.find fr t = some v) : KS w0 ρ0 N M fr' hp a w := by
  obtain ⟨ρ, h1, h2, h3, h4, h5, h6⟩ := h
  exact ⟨ρ, h1, h2, fun t v ht => h3 t v (hs t v ht), h4, h5, h6⟩
theorem find_app {x : Fr} : ∀ {fr : Fr} {t : Nat} {v : AV}, Fr.find fr t = some v → Fr.find (fr ++ x) t = some v
  | [], t, v, h => by cases h
  | (u, y) :: r, t, v, h => by
    simp only [List.cons_append, Fr.find] at h ⊢
    cases hb : Nat.beq u t with
    | true => rw [hb] at h; exact h
    | false => rw [hb] at h; exact find_app h
theorem KS.cut {fr : Fr} (x : Fr) {hp : Hp} {a : Act} {w : World} (h : KS w0 ρ0 N M (fr ++ x) hp a w) : KS w0 ρ0 N M fr hp a w := h.sub fun t v ht => find_app ht
theorem FSat_args {ρ : Nat → Loc} {n k : Nat} {args : List AV} {vs : List Value} (h2 : VRs ρ n args vs) : FSat ρ n (frOf 0 args) (vs.toArray ++ Array.replicate k undef) := by
  intro t v hv
  obtain ⟨_, hv⟩ := frOf_find _ _ _ _ hv
  rw [Nat.sub_zero] at hv
  obtain ⟨c, hc, hvc⟩ := VRs_get h2 hv
  have : (vs.toArray ++ Array.replicate k undef).getD t undef = c := by
    have ht : t < vs.length := by
      rcases Nat.lt_or_ge t vs.length with g | g
      · exact g
      · rw [List.getElem?_eq_none g] at hc; cases hc
    rw [Array.getD_eq_getD_getElem?, Array.getElem?_append_left (by simpa using ht)]
    simp [hc]
  rw [this]; exact hvc
/-- a call of the function that is handed, and the 'not' behind it -/
theorem AX.yield {Q : Exit → Act → World → Prop} (hT : TOk P T) {id : Nat} {ops : Array Oper} (k : Nat) {oy on : Oper} {fr : Fr} {hp : Hp} {l tf ta tb d : Nat} {ts : Array TypeId} {y0 y1 : AV} (J : Hp → Prop) (frK : Fr)
    (hops : ops.toList.drop k = [oy, on]) (hnd : noDefer ops = true)
    (hoy : oy.op = .call { callee := .value (.tmp tf), args := #[.tmp ta, .tmp tb], argTypes := ts }) (hgy : oy.guard = none) (hdy : oy.dst = some d) (hdN : d < N)
    (hin : ∀ x ∈ frK, x.2.inn M)
    (hpre : evOps (AC P) T N ops (ops.toList.take k) fr hp fun fr' hp' => hp' = hp ∧ Fr.find fr' tf = some (.con (.func (.yield l) #[] #[])) ∧ Fr.find fr' ta = some y0 ∧ Fr.find fr' tb = some y1 ∧ (∀ t v, Fr.find frK t = some v → Fr.find fr' t = some v) ∧ ∀ v, Fr.find frK d = some v → False)
    (hY : ∀ (ρ : Nat → Loc) (W : World) (vs : List Value), (∀ b, b < M → ρ b = ρ0 b) → HSat w0 ρ hp W → M ≤ hp.length → VRs ρ hp.length [y0, y1] vs →
      YieldAt Fence.wide 0 P l vs.toArray W fun e W' => e = .returned (.bool true) ∧ ∃ hp' ρ', J hp' ∧ (∀ b, b < M → ρ' b = ρ0 b) ∧ HSat w0 ρ' hp' W' ∧ M ≤ hp'.length)
    (hpost : ∀ hp', J hp' → evOps (AC P) T N ops [on] ((d, .bool true) :: frK) hp' fun fr' hp'' => ∀ a w, KS w0 ρ0 N M fr' hp'' a w → Q .normal a w) : AX P w0 ρ0 N M (.region id ops false) Q fr hp := by
  obtain ⟨pre, hpr⟩ : ∃ pre, ops.toList.take k = pre := ⟨_, rfl⟩
  rw [hpr] at hpre
  have hops : ops.toList = pre ++ [oy, on] := by rw [← hpr, ← hops, List.take_append_drop]
  rw [AX_iff]
  rintro a w ⟨ρ, h1, h2, h3, h4, h5, h6⟩
  refine (wpIn_wide (n := 0)).1 (wpIn_region ?_)
  have hsz : ops.size = pre.length + 2 := by rw [← Array.length_toList, hops]; simp
  have hget : ∀ i, ops[i]? = (pre ++ [oy, on])[i]? := fun i => by rw [← hops, Array.getElem?_toList]
  have hrange : List.range ops.size = List.range pre.length ++ [pre.length, pre.length + 1] := by
    rw [hsz, List.range_succ, List.range_succ]; simp
  rw [hrange]
  have gy : ops[pre.length]? = some oy := by rw [hget]; simp
  have gn : ops[pre.length + 1]? = some on := by rw [hget]; simp
  refine wpOps_in (r := none) (Q' := fun e a' w' => e = .normal ∧ ∃ fr' ρ', HSat w0 ρ' hp w' ∧ FSat ρ' hp.length fr' a'.tmps ∧ a'.tmps.size = N ∧ a'.defers = w0.ds ∧ (∀ b, b < M → ρ' b = ρ b) ∧
      Fr.find fr' tf = some (.con (.func (.yield l) #[] #[])) ∧ Fr.find fr' ta = some y0 ∧ Fr.find fr' tb = some y1 ∧ (∀ t v, Fr.find frK t = some v → Fr.find fr' t = some v) ∧ ∀ v, Fr.find frK d = some v → False) (noDefer_get hnd) ?_ _ ?_ ?_ _ a w (evOps_sound (M := M) (ρ0 := ρ) hT ?_ _ pre ?_ fr hp ρ a w hpre h2 h3 h4 h5 h6 (fun _ _ => rfl))
  · rintro ⟨a, w, g, _⟩; cases g
  · rintro a' w' ⟨_, fr', ρ', k1, k2, k3, k4, k5, k6, k7, k8, k9, k10⟩
    simp only [wpOpsIn, gy]
    have hw1 : ∀ y, Region.wanted oy y = true := fun y => by simp [Region.wanted, hgy]
    rw [if_pos (hw1 _)]
    refine ⟨fun _ _ => trivial, ?_⟩
    rw [Oper.semAt_eq _ _ _ (noDefer_get hnd _ _ gy)]
    have hv1 := k2 tf _ k6
    have hv2 := k2 ta _ k7
    have hv3 := k2 tb _ k8
    simp only [VR] at hv1
    have hvs : VRs ρ' hp.length [y0, y1] [a'.tmps.getD ta undef, a'.tmps.getD tb undef] := by
      simp only [VRs]
      exact ⟨_, _, rfl, hv2, _, _, rfl, hv3, rfl⟩
    obtain ⟨fn, tmps, assign, body, hy, hround⟩ := hY ρ' w' _ (fun b hb => (k5 b hb).trans (h1 b hb)) k1 h6 hvs
    have hrun : (execOp a'.eval oy).run P w' = .ok (.round l fn tmps assign body) w' := by
      unfold execOp
      rw [hoy]
      have e1 : a'.eval (.tmp tf) = .func (.yield l) #[] #[] := hv1.1
      have e2 : a'.eval (.tmp ta) = a'.tmps.getD ta undef := rfl
      have e3 : a'.eval (.tmp tb) = a'.tmps.getD tb undef := rfl
      have e4 : (#[Operand.tmp ta, Operand.tmp tb] : Array Operand).map a'.eval = [a'.tmps.getD ta undef, a'.tmps.getD tb undef].toArray := by simp [e2, e3]
      simp only [resolve, e1, e4, Deferred.ofValue, Sem.run_bind, Sem.run_pure, Result.andThen_ok, invoke]
      simpa using hy
    rw [hrun, Oper.uponIn_round]
    refine ⟨fun hd => by simp [FR, Fence.wide] at hd, hround.mono ?_⟩
    rintro e W' ⟨rfl, hp', ρ'', hJ, m1, m2, m3⟩
    have hf : FSat ρ'' hp'.length ((d, .bool true) :: frK) (a'.put oy.dst (.bool true)).tmps := by
      rw [hdy]
      intro t v ht
      simp only [Fr.find] at ht
      simp only [Act.put]
      cases hb : Nat.beq d t with
      | true =>
        rw [hb] at ht
        have := Nat.eq_of_beq_eq_true hb
        subst this
        cases ht
        rw [Array.getD_eq_getD_getElem?]
        simp [k3, hdN, VR]
      | false =>
        rw [hb] at ht
        have hne : d ≠ t := fun e => by rw [e, Nat.beq_refl] at hb; cases hb
        rw [Array.getD_eq_getD_getElem?, Array.getElem?_setIfInBounds_ne hne, ← Array.getD_eq_getD_getElem?]
        exact VR_low (find_inn hin ht) (k2 t v (k9 t v ht)) (fun b hb => (m1 b hb).trans ((k5 b hb).trans (h1 b hb)).symm) m3
    have hlast : wpOpsIn (FR none) 0 P ops Q ([pre.length + 1] ++ []) (a'.put oy.dst (.bool true)) W' := by
      refine wpOps_in (r := none) (Q' := fun e a w => e = .normal ∧ Q .normal a w) (noDefer_get hnd) ?_ _ ?_ ?_ _ _ _ (evOps_sound (M := M) (ρ0 := ρ0) hT ?_ [pre.length + 1] [on] ?_ _ _ ρ'' _ _ (hpost hp' hJ) m2 hf ?_ ?_ m3 m1)
      · rintro ⟨a, w, g, _⟩; cases g
      · rintro a w ⟨_, g⟩; exact g
      · rintro ch a w ⟨g, _⟩; cases g
      · rintro a w fr hp ρ g1 g2 g3 g4 g5 g6 g7
        exact ⟨rfl, g1 a w ⟨ρ, g7, g2, g3, g4, g5, g6⟩⟩
      · simp [gn]
      · rw [put_size]; exact k3
      · rw [put_defers]; exact k4
    exact hlast
  · rintro ch a w ⟨g, _⟩; cases g
  · rintro a w fr' hp' ρ' ⟨rfl, k⟩ g2 g3 g4 g5 g6 g7
    exact ⟨rfl, fr', ρ', g2, g3, g4, g5, g7, k⟩
  · apply List.ext_getElem
    · simp
    · intro i g1 g2
      simp at g1 g2
      have : ops[i]? = some pre[i] := by rw [hget, List.getElem?_append_left g1]; exact List.getElem?_eq_getElem g1
      simp [this]
end
end Go.Aw
end
