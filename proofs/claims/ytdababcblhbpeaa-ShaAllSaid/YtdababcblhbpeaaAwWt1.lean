/-
  AwWt1: witnesses: the small functions. Own work.
-/
import Derived.Test.YtdababcblhbpeaaAwSc1
set_option linter.unusedVariables false
set_option linter.unusedSimpArgs false
set_option maxRecDepth 20000
open Go.Proofs
namespace Go.Aw

def heldI (n : Int) : Int := if n < 0 then 0 else if 1099511627776 < n then 1099511627776 else n
theorem held_ok (n : Int) : AC Try.prog 85 [.int .i64 n] [] (fun r hp' => r = .int .i64 (heldI n) ∧ hp' = []) := by
  refine AC.left (AC.body tokT Try.func85 rfl rfl rfl (by decide) (by rfl) ?_)
  refine ev_sound tokT (keep := fun _ => true) ?_
  (conv => whnf)
  rw [show (if (1099511627776 : Int) < (if (0 : Int) > n then 0 else n) then (1099511627776 : Int) else (if (0 : Int) > n then 0 else n)) = heldI n by unfold heldI; split <;> split <;> (try split) <;> omega]
  (refine Left.of [] (.int .i64 (heldI n)) [] (by rfl) (by rfl) (by rfl) (by (repeat' (exact True.intro))) (by rfl) (by (repeat' (exact True.intro))) ?_)
  exact ⟨rfl, rfl⟩
theorem heldI_range (n : Int) : 0 ≤ heldI n ∧ heldI n ≤ 1099511627776 := by unfold heldI; split <;> (try split) <;> omega

/-- a claim -/
structure Clm where
  wit : Wit
  seq : Int
  lock : Int
  wait : Int
abbrev Clm.segs (c : Clm) : List AV := [.int .i64 c.wit.kind, .int .i64 c.wit.key, .str c.wit.pre, .int .i64 c.seq, .int .i64 c.lock, .int .i64 c.wait]
abbrev Clm.av (c : Clm) : AV := .agg c.segs

def maxI (a b : Int) : Int := if b > a then b else a
def ripI (c : Clm) (conf : Int) : Int := heldI (maxI (maxI (heldI conf + heldI c.wait) (heldI conf + 1)) (heldI c.lock))
theorem rip_ok (c : Clm) (conf : Int) : AC Try.prog 47 [c.av, .int .i64 conf] [] (fun r hp' => r = .int .i64 (ripI c conf) ∧ hp' = []) := by
  refine AC.left (AC.body tokT Try.func47 rfl rfl rfl (by decide) (by rfl) ?_)
  have h1 := heldI_range conf
  have h2 := heldI_range c.wait
  have h3 := heldI_range c.lock
  refine AW.pre tokT (fun _ => true) ?_; (conv => whnf)
  refine AW.pre tokT (fun _ => true) ?_; (conv => whnf)
  refine AC.pure (held_ok conf) (by (repeat' (first | exact True.intro | refine And.intro ?_ ?_))) (by (repeat' (exact True.intro))) ?_
  (conv => whnf)
  obtain ⟨H, hH⟩ : ∃ H, heldI conf = H := ⟨_, rfl⟩
  obtain ⟨X, hX⟩ : ∃ X, heldI c.wait = X := ⟨_, rfl⟩
  obtain ⟨Y, hY⟩ : ∃ Y, heldI c.lock = Y := ⟨_, rfl⟩
  have hw := held_ok c.wait
  have hl := held_ok c.lock
  rw [hX] at hw h2
  rw [hY] at hl h3
  rw [hH] at h1 ⊢
  refine AW.seq (AW.draw [(false, 0), (false, 1), (false, 2), (false, 5), (false, 6), (false, 7), (false, 8), (true, 3), (false, 4), (true, 9), (false, 10), (true, 11), (false, 12)] (keep := fun _ => true) mixed_okS tokT (by kernel_rfl) (by kernel_rfl) ?_)
  ((conv => whnf); (repeat (((refine Exists.intro _ (And.intro (by ((conv => whnf); (repeat ((refine And.intro (by exact rfl) ?_); (conv => whnf))))) ?_)); (conv => whnf)))))
  refine AC.pure hw (by (repeat' (first | exact True.intro | refine And.intro ?_ ?_))) (by (repeat' (exact True.intro))) ?_
  ((conv => whnf); (repeat (first | ((with_reducible (refine And.intro (show Go.Aw.againsK _ _ _ _ _ from ?_) ?_)); (focus (repeat' (first | ((with_reducible (show Go.Aw.againsK _ _ _ _ _)); (conv => whnf)) | ((with_reducible (show Go.Aw.againK _ _ _ _ _)); (conv => whnf)) | (with_reducible (exact True.intro)) | (with_reducible (refine And.intro ?_ ?_)) | exact rfl))); (conv => whnf)) | ((refine Exists.intro _ (And.intro (by ((conv => whnf); (repeat ((refine And.intro (by exact rfl) ?_); (conv => whnf))))) ?_)); (conv => whnf)))))
  refine AC.pure hl (by (repeat' (first | exact True.intro | refine And.intro ?_ ?_))) (by (repeat' (exact True.intro))) ?_
  ((conv => whnf); (repeat (first | ((with_reducible (refine And.intro (show Go.Aw.againsK _ _ _ _ _ from ?_) ?_)); (focus (repeat' (first | ((with_reducible (show Go.Aw.againsK _ _ _ _ _)); (conv => whnf)) | ((with_reducible (show Go.Aw.againK _ _ _ _ _)); (conv => whnf)) | (with_reducible (exact True.intro)) | (with_reducible (refine And.intro ?_ ?_)) | exact rfl))); (conv => whnf)) | ((refine Exists.intro _ (And.intro (by ((conv => whnf); (repeat ((refine And.intro (by exact rfl) ?_); (conv => whnf))))) ?_)); (conv => whnf)))))
  refine AC.pure (held_ok _) (by (repeat' (first | exact True.intro | refine And.intro ?_ ?_))) (by (repeat' (exact True.intro))) ?_
  ((conv => whnf); (repeat (first | ((with_reducible (refine And.intro (show Go.Aw.againsK _ _ _ _ _ from ?_) ?_)); (focus (repeat' (first | ((with_reducible (show Go.Aw.againsK _ _ _ _ _)); (conv => whnf)) | ((with_reducible (show Go.Aw.againK _ _ _ _ _)); (conv => whnf)) | (with_reducible (exact True.intro)) | (with_reducible (refine And.intro ?_ ?_)) | exact rfl))); (conv => whnf)) | ((refine Exists.intro _ (And.intro (by ((conv => whnf); (repeat ((refine And.intro (by exact rfl) ?_); (conv => whnf))))) ?_)); (conv => whnf)))))
  rw [IntWalk.i64_in (H + 1) (by omega), IntWalk.i64_in (H + X) (by omega)]
  rw [show heldI (if Y > (if H + 1 > H + X then H + 1 else H + X) then Y else (if H + 1 > H + X then H + 1 else H + X)) = ripI c conf by unfold ripI maxI; rw [hH, hX, hY]]
  refine ev_sound tokT (keep := fun _ => true) ?_
  (conv => whnf)
  (refine Left.of [] (.int .i64 (ripI c conf)) [] (by rfl) (by rfl) (by rfl) (by (repeat' (exact True.intro))) (by rfl) (by (repeat' (exact True.intro))) ?_)
  exact ⟨rfl, rfl⟩
theorem ripe_ok (c : Clm) (conf next : Int) : AC Try.prog 48 [c.av, .int .i64 conf, .int .i64 next] [] (fun r hp' => r = .bool (decide (next ≥ ripI c conf)) ∧ hp' = []) := by
  refine AC.left (AC.body tokT Try.func48 rfl rfl rfl (by decide) (by rfl) ?_)
  refine AW.pre tokT (fun _ => true) ?_; (conv => whnf)
  refine ev_sound tokT (keep := fun _ => true) ?_
  (conv => whnf)
  refine AC.frame (rip_ok c conf) [] (by (repeat' (exact True.intro))) (by rfl) (by (repeat' (first | exact True.intro | refine And.intro ?_ ?_))) (by rfl) ?_
  rintro r0 hp0 ⟨rfl, rfl⟩
  (conv => whnf)
  (refine Left.of [] (.bool (decide (next ≥ ripI c conf))) [] (by rfl) (by rfl) (by rfl) (by (repeat' (exact True.intro))) (by rfl) (by (repeat' (exact True.intro))) ?_)
  exact ⟨rfl, rfl⟩
theorem ripI_eq (c : Clm) (conf : Int) : ripI c conf = min (max (max (heldI conf + heldI c.wait) (heldI conf + 1)) (heldI c.lock)) 1099511627776 := by
  have h1 := heldI_range conf
  have h2 := heldI_range c.wait
  have h3 := heldI_range c.lock
  unfold ripI
  generalize heldI conf = a at *
  generalize heldI c.wait = b at *
  generalize heldI c.lock = d at *
  have e : maxI (maxI (a + b) (a + 1)) d = max (max (a + b) (a + 1)) d := by unfold maxI; split <;> split <;> omega
  rw [e]
  unfold heldI; split <;> (try split) <;> omega

theorem sigk_ok (key : Int) : AC Try.prog 86 [.int .i64 key] [] (fun r hp' => r = (⟨⟨1, key, []⟩, 0, 0, 0⟩ : Clm).av ∧ hp' = []) := by
  refine AC.left (AC.body tokT Try.func86 rfl rfl rfl (by decide) (by rfl) ?_)
  refine ev_sound tokT (keep := fun _ => true) ?_
  (conv => whnf)
  (refine Left.of [] ((⟨⟨1, key, []⟩, 0, 0, 0⟩ : Clm).av) [] (by rfl) (by rfl) (by rfl) (by (repeat' (first | exact True.intro | refine And.intro ?_ ?_))) (by rfl) (by (repeat' (first | exact True.intro | refine And.intro ?_ ?_))) ?_)
  exact ⟨rfl, rfl⟩
end Go.Aw
