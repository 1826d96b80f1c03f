/-
  AwCh6: an orphan is let go; a chain adopts. Own work.
-/
import Derived.Test.YtdababcblhbpeaaAwCh5
set_option linter.unusedVariables false
set_option linter.unusedSimpArgs false
set_option maxRecDepth 20000
open Go.Proofs
namespace Go.Aw

def zeroO : List Int × Hdr := (List.replicate 32 0, ⟨List.replicate 32 0, List.replicate 32 0, 0, 0⟩)
theorem cut_row {α : Type} (els : List α) (z : α) (i n : Nat) (hn : els.length = n) (hi : i < n) :
    (els.take i ++ (els.drop (i + 1)).take (n - (i + 1)) ++ els.drop (i + (n - (i + 1)))).take (n - 1) ++ List.replicate 1 z ++ (els.take i ++ (els.drop (i + 1)).take (n - (i + 1)) ++ els.drop (i + (n - (i + 1)))).drop n
      = els.take i ++ els.drop (i + 1) ++ [z] := by
  have h1 : (els.drop (i + 1)).take (n - (i + 1)) = els.drop (i + 1) := List.take_of_length_le (by rw [List.length_drop]; omega)
  rw [h1]
  have h2 : (els.take i ++ els.drop (i + 1)).length = n - 1 := by rw [List.length_append, List.length_take, List.length_drop]; omega
  have h3 : (els.drop (i + (n - (i + 1)))).length = 1 := by rw [List.length_drop]; omega
  rw [List.take_append_of_le_length (by omega), List.take_of_length_le (by omega), List.drop_of_length_le (l := els.take i ++ els.drop (i + 1) ++ els.drop (i + (n - (i + 1)))) (by rw [List.length_append]; omega)]
  simp

theorem delete_ok (l : List (List Int × Hdr)) (i n C : Nat) (hl : l.length = n) (hn : n ≤ 1000000) (hC : n ≤ C) (hi : i < n) :
    AC Try.prog 116 [.sl 0 0 n (some C), .int .i64 (i : Int), .int .i64 ((i : Int) + 1)] [⟨98, false, none, .row (rowO l)⟩]
      (fun r hp' => r = .sl 0 0 (n - 1) (some C) ∧ hp' = [⟨98, false, none, .row (rowO (l.take i ++ l.drop (i + 1) ++ [zeroO]))⟩]) := by
  refine AC.left (AC.body tokT Try.func116 rfl rfl rfl (by decide) (by rfl) ?_)
  have hrl : (rowO l).length = n := by rw [← hl]; simp [rowO]
  refine AW.pre tokT (fun _ => true) ?_; (conv => whnf)
  refine AW.pre tokT (fun _ => true) ?_; ((conv => whnf); (repeat (((refine And.intro (by omega) ?_); (conv => whnf)))))
  refine AW.pre tokT (fun _ => true) ?_; (conv => whnf)
  rw [show ((i : Int) == (i : Int) + 1) = false from beq_eq_false_iff_ne.2 (by omega)]
  (conv => whnf)
  refine AW.pre tokT (fun _ => true) ?_; (conv => whnf)
  refine AW.seq (AW.drawT (.pure 0 (.pure 1 (.pure 2 (.pure 3 (.pure 4 (.pure 5 (.one 6 (.one 7 .fin)))))))) (keep := fun _ => true) mixed_okC tokT (by kernel_rfl) (by kernel_rfl) ?_)
  ((conv => whnf); (repeat (first | ((with_reducible (refine And.intro (show Go.Aw.againsK _ _ _ _ _ from ?_) ?_)); (focus (repeat' (first | ((with_reducible (show Go.Aw.againsK _ _ _ _ _)); (conv => whnf)) | ((with_reducible (show Go.Aw.againK _ _ _ _ _)); (conv => whnf)) | (with_reducible (exact True.intro)) | (with_reducible (refine And.intro ?_ ?_)) | exact rfl))); (conv => whnf)) | ((refine And.intro (by (simp [roomMost]; omega)) ?_); (conv => whnf)) | ((refine Exists.intro _ (And.intro (by ((conv => whnf); (repeat ((refine And.intro (by first | exact rfl | assumption | omega) ?_); (conv => whnf))))) ?_)); (conv => whnf)))))
  refine ev_sound tokT (keep := fun _ => true) ?_
  ((conv => whnf); (repeat (((refine And.intro (by first | assumption | omega | (simp; omega)) ?_); (conv => whnf)))))
  have e2 : ((i : Int) + 1).toNat = i + 1 := by omega
  have e4 : i + (n - (i + 1)) = n - 1 := by omega
  have e5 : n - (n - 1) = 1 := by omega
  have e6 : n - 1 + 1 = n := by omega
  have hcut := cut_row (rowO l) (AV.ints .u8 32 zeroO.1 :: zeroO.2.segs) i n hrl hi
  rw [e4] at hcut
  have hz : (AV.ints .u8 32 zeroO.1 :: zeroO.2.segs) = [AV.ints .u8 32 (List.replicate 32 0), AV.ints .u8 32 (List.replicate 32 0), AV.ints .u8 32 (List.replicate 32 0), AV.int .i64 0, AV.int .i64 0] := rfl
  have hr : (rowO l).take i ++ (rowO l).drop (i + 1) ++ [AV.ints .u8 32 zeroO.1 :: zeroO.2.segs] = rowO (l.take i ++ l.drop (i + 1) ++ [zeroO]) := by simp [rowO, List.map_take, List.map_drop]
  rw [hr, hz] at hcut
  simp only [Int.toNat_natCast, e2, Nat.zero_add, Nat.sub_zero, Nat.add_zero, e4, e5, e6]
  rw [hcut]
  (refine Left.of [0] (.sl 0 0 (n - 1) (some C)) [⟨98, false, none, .row (rowO (l.take i ++ l.drop (i + 1) ++ [zeroO]))⟩] (by rfl) (by rfl) (by rfl) (by (repeat' (first | exact True.intro | exact rfl | refine And.intro ?_ ?_ | (simp [AV.ren, AV.rens, AObj.ren, Ent.ren, AV.inn, AV.inns, AObj.inn, *]; done)))) (by rfl) (by (repeat' (first | exact True.intro | exact rfl | refine And.intro ?_ ?_ | (simp [AV.ren, AV.rens, AObj.ren, Ent.ren, AV.inn, AV.inns, AObj.inn, *]; done)))) ?_)
  exact ⟨rfl, rfl⟩

/-- an orphan is let go, and taken in -/
def lessC (c : Ch) (i : Nat) : Ch := { c with orphans := c.orphans.take i ++ c.orphans.drop (i + 1) }
def stepC (c : Ch) (i : Nat) (o : List Int × Hdr) : Ch := if deepB (lessC c i) ((findK o.2.prev c.known).getD zeroK).height = true then lessC c i else takesC (lessC c i) o.1 o.2
def adoptN : Nat → Ch → Ch
  | 0, c => c
  | n + 1, c => match idxF (prevKn c) c.orphans with
    | none => c
    | some i => adoptN n (stepC c i (c.orphans.getD i zeroO))
def adoptC (c : Ch) : Ch := adoptN c.orphans.length c

theorem insK_mem {id : List Int} {x : KH} {k : Nat} {e : Nat × List Int × KH} : ∀ {l : List (Nat × List Int × KH)}, e ∈ insK id x k l → e ∈ l ∨ (e.2.1 = id ∧ e.2.2 = x)
  | [], h => by
    simp only [insK, List.mem_singleton] at h
    subst h
    exact .inr ⟨rfl, rfl⟩
  | a :: r, h => by
    simp only [insK] at h
    split at h
    · rename_i q
      rcases List.mem_cons.1 h with h | h
      · subst h; exact .inr ⟨q.symm, rfl⟩
      · exact .inl (.tail _ h)
    · rcases List.mem_cons.1 h with h | h
      · subst h; exact .inl (.head _)
      · rcases insK_mem h with g | g
        · exact .inl (.tail _ g)
        · exact .inr g
theorem KOk.less {c : Ch} {N : Nat} (h : KOk c N) {i : Nat} (hi : i < c.orphans.length) : KOk (lessC c i) N ∧ (lessC c i).orphans.length + 1 = c.orphans.length := by
  have hl : (c.orphans.take i ++ c.orphans.drop (i + 1)).length + 1 = c.orphans.length := by
    rw [List.length_append, List.length_take, List.length_drop]; omega
  have hm : ∀ o, o ∈ c.orphans.take i ++ c.orphans.drop (i + 1) → o ∈ c.orphans := by
    intro o ho
    rcases List.mem_append.1 ho with g | g
    · exact List.mem_of_mem_take g
    · exact List.mem_of_mem_drop g
  have hs := h.sum
  exact ⟨⟨h.hk, h.way, h.lens, h.ids, h.prevs, h.hts, h.works, fun o ho => h.orps o (hm o ho), fun o ho => h.owrk o (hm o ho), by simp only [lessC]; omega⟩, hl⟩
theorem KOk.takes {c : Ch} {N : Nat} (h : KOk c N) {id : List Int} {x : Hdr} (hid : id.length = 32) (hx : x.wf) (hw : 0 ≤ x.work ∧ x.work ≤ 1099511627776) (hs : c.came + 1 + c.orphans.length ≤ N) : KOk (takesC c id x) N := by
  have h1 := h.sum
  have hp : (0 ≤ ((findK x.prev c.known).getD zeroK).height ∧ ((findK x.prev c.known).getD zeroK).height ≤ c.came) ∧ (0 ≤ ((findK x.prev c.known).getD zeroK).work ∧ ((findK x.prev c.known).getD zeroK).work ≤ (c.came + 1) * 1099511627776) := by
    cases g : findK x.prev c.known with
    | none => simp only [Option.getD_none, zeroK]; omega
    | some y =>
      obtain ⟨b, hb⟩ := findK_mem g
      exact ⟨h.hts _ hb, h.works _ hb⟩
  refine ⟨h.hk, ⟨h.way.1, ?_⟩, h.lens, ?_, ?_, ?_, ?_, h.orps, h.owrk, ?_⟩
  · have := h.way.2; simp only [takesC]; omega
  · intro e he
    rcases insK_mem he with g | ⟨g, _⟩
    · exact h.ids e g
    · rw [g]; exact hid
  · intro e he
    rcases insK_mem he with g | ⟨_, g⟩
    · exact h.prevs e g
    · rw [g]; exact hx.prev
  · intro e he
    simp only [takesC]
    rcases insK_mem he with g | ⟨_, g⟩
    · have := h.hts e g; omega
    · rw [g]; simp only [newK]; omega
  · intro e he
    simp only [takesC]
    rcases insK_mem he with g | ⟨_, g⟩
    · have := h.works e g; omega
    · rw [g]; simp only [newK]; omega
  · simp only [takesC]; omega
theorem KOk.step {c : Ch} {N : Nat} (h : KOk c N) {i : Nat} {o : List Int × Hdr} (ho : c.orphans[i]? = some o) : KOk (stepC c i o) N ∧ (stepC c i o).orphans.length + 1 = c.orphans.length := by
  have hi := (List.getElem?_eq_some_iff.1 ho).1
  have hm : o ∈ c.orphans := List.mem_of_getElem? ho
  obtain ⟨g1, g2⟩ := h.less hi
  have hs := h.sum
  unfold stepC
  split
  · exact ⟨g1, g2⟩
  · refine ⟨g1.takes (h.orps o hm).1 (h.orps o hm).2 (h.owrk o hm) ?_, g2⟩
    rw [show (lessC c i).came = c.came from rfl]; omega
end Go.Aw
