/-
  AwSr2: the plain sum's chunk. Own work.
-/
import Derived.Test.YtdababcblhbpeaaAwSr1
set_option linter.unusedVariables false
set_option linter.unusedSimpArgs false
set_option maxRecDepth 20000
open Go.Proofs

namespace Go.Aw
attribute [local irreducible] IntKind.wrap andI orI xorI shlI shrI

theorem ringI_now (S : List W32) (t : Nat) : (ringI S (t + 1)).getD (t % 16) 0 = wI (S.getD t 0) := by
  rw [ringI_get S (t + 1) (by omega), if_neg (by omega)]
  congr 2; omega
/-- the eight words, those behind place i moved on -/
def shI (l : List Int) (i : Nat) : List Int := l.take (i + 1) ++ (l.drop i).take (7 - i)
theorem shI_step (t : St) {i : Nat} (h0 : 1 ≤ i) (h : i ≤ 7) : (shI t.l i).set i ((shI t.l i).getD (i - 1) 0) = shI t.l (i - 1) := by
  have : i = 1 ∨ i = 2 ∨ i = 3 ∨ i = 4 ∨ i = 5 ∨ i = 6 ∨ i = 7 := by omega
  rcases this with rfl | rfl | rfl | rfl | rfl | rfl | rfl <;> rfl

abbrev ckF (cap : Option Nat) (off : Nat) (t : Int) : Fr := [(1, .sl 0 off 64 cap), (2, .ptr 1 0 0 0), (4, .ptr 2 0 0 0), (5, .sl 3 0 64 (some 64)), (6, .ptr 4 0 0 0), (7, .ptr 5 0 0 0), (8, .int .i64 t)]
abbrev ckH (xs : List Int) (s : St) (ring : List Int) (a : List Int) : Hp := [⟨1, true, none, .ints .u8 xs⟩, ⟨8, false, none, .var [.ints .u32 8 s.l]⟩, ⟨8, false, none, .var [.ints .u32 8 (List.replicate 8 0)]⟩, ⟨1, false, none, .ints .u32 (kT.map Int.ofNat)⟩, ⟨16, false, none, .var [.ints .u32 16 ring]⟩, ⟨8, false, none, .var [.ints .u32 8 a]⟩]

set_option maxHeartbeats 2000000 in
theorem chunk_ok (s : St) (xs : List Int) (off : Nat) (cap : Option Nat) (hol : off + 64 ≤ xs.length) :
    AC Try.prog 80 [.agg [.ints .u32 8 s.l], .sl 0 off 64 cap] [⟨1, true, none, .ints .u8 xs⟩]
      (fun r hp' => r = .agg [.ints .u32 8 (compr s (wordsOf ((xs.drop off).take 64))).l] ∧ hp' = [⟨1, true, none, .ints .u8 xs⟩]) := by
  refine AC.left (AC.body tokT Try.func80 rfl rfl rfl (by decide) (by rfl) ?_)
  obtain ⟨L, hL⟩ : ∃ L, (xs.drop off).take 64 = L := ⟨_, rfl⟩
  have hLg : ∀ j, j < 64 → xs.getD (off + j) 0 = L.getD j 0 := fun j hj => by
    rw [← hL, List.getD_eq_getElem?_getD, List.getD_eq_getElem?_getD, List.getElem?_take_of_lt hj, List.getElem?_drop]
  rw [hL]
  obtain ⟨m, hm⟩ : ∃ m, wordsOf L = m := ⟨_, rfl⟩
  have hml : m.length = 16 := by rw [← hm, wordsOf_length]
  have hmg : ∀ t, t < 16 → (sch m 48).getD t 0 = wordAt L t := fun t ht => by
    have h48 := sch_prefix m 0 48 t (by omega)
    rw [Nat.zero_add] at h48
    rw [h48, ← wordsOf_get L ht, hm]; rfl
  obtain ⟨S, hS⟩ : ∃ S, sch m 48 = S := ⟨_, rfl⟩
  rw [hm]
  refine AW.pre tokT (fun _ => true) ?_; (conv => whnf)
  refine AW.pre tokT (fun _ => true) ?_; (conv => whnf)
  refine AC.frame steps_ok [] (by (repeat' (exact True.intro))) (by rfl) (by (repeat' (exact True.intro))) (by rfl) ?_
  rintro r0 hp0 ⟨rfl, rfl⟩
  (conv => whnf)
  refine AW.pre tokT (fun _ => true) ?_; (conv => whnf)
  refine AW.pre tokT (fun _ => true) ?_; (conv => whnf)
  refine AW.cutT (fun fr hp => fr = ckF cap off 64 ∧ hp = ckH xs s (ringI S 64) (sts s S 64).l) ?_ ?_
  · refine AW.pre tokT (fun _ => true) ?_; (conv => whnf)
    refine AW.block ?_
    have hr0 : ringI S 0 = List.replicate 16 0 := by simp [ringI]; rfl
    (refine AW.turnL [0, 1, 2, 3, 4, 5] (ckF cap off 0) (ckH xs s (List.replicate 16 0) s.l) (by rfl) (by rfl) (by rfl) (by (repeat' (first | exact True.intro | exact rfl | refine And.intro ?_ ?_ | (simp [AV.ren, AV.rens, AObj.ren, Ent.ren, AV.inn, AV.inns, AObj.inn, *]; done)))) (by (repeat' (first | exact True.intro | exact rfl | refine And.intro ?_ ?_ | (simp [AV.ren, AV.rens, AObj.ren, Ent.ren, AV.inn, AV.inns, AObj.inn, *]; done)))) ?_)
    refine AW.loop (fun q fr hp => ∃ t, q = 64 - t ∧ t ≤ 64 ∧ fr = ckF cap off t ∧ hp = ckH xs s (ringI S t) (sts s S t).l) 64 ?_ ?_
    · exact ⟨0, rfl, by omega, rfl, by rw [hr0]; rfl⟩
    · rintro q fr hp ⟨t, rfl, ht, rfl, rfl⟩ -
      refine AW.post ?_
      refine AW.pre tokT (fun _ => true) ?_
      (conv => whnf); (cases hlt : (decide ((↑t : Int) < 64) : Bool) <;> (try simp only [beq_iff_eq, beq_eq_false_iff_ne, ne_eq, decide_eq_true_eq, decide_eq_false_iff_not, bne_iff_ne, bne_eq_false_iff_eq, Bool.not_eq_true, Bool.not_eq_false, gt_iff_lt, ge_iff_le] at hlt) <;> (try (exfalso; omega)))
      case' false =>
        (conv => whnf)
        have : t = 64 := by omega
        subst this
        (refine Turned.of [0, 1, 2, 3, 4, 5] (ckF cap off 64) (ckH xs s (ringI S 64) (sts s S 64).l) (by rfl) (by rfl) (by rfl) (by (repeat' (first | exact True.intro | exact rfl | refine And.intro ?_ ?_ | (simp [AV.ren, AV.rens, AObj.ren, Ent.ren, AV.inn, AV.inns, AObj.inn, *]; done)))) (by (repeat' (first | exact True.intro | exact rfl | refine And.intro ?_ ?_ | (simp [AV.ren, AV.rens, AObj.ren, Ent.ren, AV.inn, AV.inns, AObj.inn, *]; done)))) ?_)
        exact ⟨rfl, rfl⟩
      (conv => whnf)
      have ht64 : t < 64 := by omega
      obtain ⟨e, he⟩ : ∃ e, sts s S t = e := ⟨_, rfl⟩
      rw [he]
      refine AW.cutT (fun fr hp => fr = ckF cap off t ∧ hp = ckH xs s (ringI S (t + 1)) (sts s S (t + 1)).l) ?_ ?_
      · refine AW.block ?_
        refine AW.cutT (fun fr hp => fr = ckF cap off t ∧ hp = ckH xs s (ringI S (t + 1)) e.l) ?_ ?_
        · refine AW.pre tokT (fun _ => true) ?_
          (conv => whnf)
          refine ev_sound tokT (keep := fun _ => true) ?_
          (conv => whnf); (cases h16 : (decide ((↑t : Int) < 16) : Bool) <;> (try simp only [beq_iff_eq, beq_eq_false_iff_ne, ne_eq, decide_eq_true_eq, decide_eq_false_iff_not, bne_iff_ne, bne_eq_false_iff_eq, Bool.not_eq_true, Bool.not_eq_false, gt_iff_lt, ge_iff_le] at h16) <;> (try (exfalso; omega)))
          case' true =>
            -- a word of the block
            have ht16 : t < 16 := by omega
            have hmod : t % 16 = t := Nat.mod_eq_of_lt ht16
            have hset0 : (ringI S t).set t (wI 0) = ringI S t := by
              apply List.ext_getElem?
              intro i
              rw [List.getElem?_set]
              split
              · rename_i e1
                subst e1
                rw [if_pos (by rw [ringI_length]; exact ht16)]
                simp only [ringI, List.getElem?_map, List.getElem?_range ht16, Option.map_some]
                rw [if_pos (Nat.le_refl t)]
              · rfl
            have hfin : (ringI S t).set t (wI (partW L t 4)) = ringI S (t + 1) := by
              rw [partW_all, ← hmg t ht16, hS]
              have := ringI_set S t
              rwa [hmod] at this
            have hrl := ringI_length S t
            (conv => whnf)
            (refine AW.turnL [0, 1, 2, 3, 4, 5] (ckF cap off t ++ [(9, .int .i64 0)]) (ckH xs s (ringI S t) e.l) (by rfl) (by rfl) (by rfl) (by (repeat' (first | exact True.intro | exact rfl | refine And.intro ?_ ?_ | (simp [AV.ren, AV.rens, AObj.ren, Ent.ren, AV.inn, AV.inns, AObj.inn, *]; done)))) (by (repeat' (first | exact True.intro | exact rfl | refine And.intro ?_ ?_ | (simp [AV.ren, AV.rens, AObj.ren, Ent.ren, AV.inn, AV.inns, AObj.inn, *]; done)))) ?_)
            refine AW.loop (fun q fr hp => ∃ i, q = 4 - i ∧ i ≤ 4 ∧ fr = ckF cap off t ++ [(9, .int .i64 i)] ∧ hp = ckH xs s ((ringI S t).set t (wI (partW L t i))) e.l) 4 ?_ ?_
            · exact ⟨0, rfl, by omega, rfl, by rw [show partW L t 0 = 0 from rfl, hset0]⟩
            · rintro q fr hp ⟨i, rfl, hi, rfl, rfl⟩ -
              refine AW.post ?_
              refine ev_sound tokT (keep := fun _ => true) ?_
              (conv => whnf); (cases hi4 : (decide ((↑i : Int) < 4) : Bool) <;> (try simp only [beq_iff_eq, beq_eq_false_iff_ne, ne_eq, decide_eq_true_eq, decide_eq_false_iff_not, bne_iff_ne, bne_eq_false_iff_eq, Bool.not_eq_true, Bool.not_eq_false, gt_iff_lt, ge_iff_le] at hi4) <;> (try (exfalso; omega)))
              case' false =>
                (conv => whnf)
                have : i = 4 := by omega
                subst this
                rw [hfin]
                (refine Turned.of [0, 1, 2, 3, 4, 5] (ckF cap off t) (ckH xs s (ringI S (t + 1)) e.l) (by rfl) (by rfl) (by rfl) (by (repeat' (first | exact True.intro | exact rfl | refine And.intro ?_ ?_ | (simp [AV.ren, AV.rens, AObj.ren, Ent.ren, AV.inn, AV.inns, AObj.inn, *]; done)))) (by (repeat' (first | exact True.intro | exact rfl | refine And.intro ?_ ?_ | (simp [AV.ren, AV.rens, AObj.ren, Ent.ren, AV.inn, AV.inns, AObj.inn, *]; done)))) ?_)
                exact ⟨rfl, rfl⟩
              have hi' : i < 4 := by omega
              have e1 : IntKind.i64.wrap (IntKind.i64.wrap (4 * (t : Int)) + (i : Int)) = ((4 * t + i : Nat) : Int) := by
                rw [IntWalk.i64_in (4 * _) (by omega), IntWalk.i64_in _ (by omega)]; omega
              have e1a : 0 ≤ IntKind.i64.wrap (IntKind.i64.wrap (4 * (t : Int)) + (i : Int)) := by rw [e1]; omega
              have e1b : IntKind.i64.wrap (IntKind.i64.wrap (4 * (t : Int)) + (i : Int)) < ((64 : Nat) : Int) := by rw [e1]; omega
              have e1c : off + (IntKind.i64.wrap (IntKind.i64.wrap (4 * (t : Int)) + (i : Int))).toNat = off + (4 * t + i) := by rw [e1, Int.toNat_natCast]
              have e1d : off + (IntKind.i64.wrap (IntKind.i64.wrap (4 * (t : Int)) + (i : Int))).toNat < xs.length := by rw [e1c]; omega
              have hg := hLg (4 * t + i) (by omega)
              (conv => whnf)
              refine AW.draw [(false, 0), (false, 1), (false, 2), (false, 3), (false, 4), (false, 5), (false, 6), (false, 7), (false, 8), (false, 9), (false, 10), (false, 11), (false, 12), (false, 13), (false, 14), (true, 15)] (keep := fun _ => true) mixed_ok' tokT (by kernel_rfl) (by kernel_rfl) ?_
              ((conv => whnf); (repeat (first | ((with_reducible (refine And.intro (show Go.Aw.againsK _ _ _ _ _ from ?_) ?_)); (focus (repeat' (first | ((with_reducible (show Go.Aw.againsK _ _ _ _ _)); (conv => whnf)) | (with_reducible (exact True.intro))))); (conv => whnf)) | ((refine And.intro (by assumption) ?_); (conv => whnf)) | ((refine Exists.intro _ (And.intro (by ((conv => whnf); (repeat ((refine And.intro (by first | exact rfl | assumption | omega) ?_); (conv => whnf))))) ?_)); (conv => whnf)))))
              rw [show (t : Int).toNat = t from Int.toNat_natCast _, e1c, hg]
              have hgs : ∀ v : Int, ((ringI S t).set t v).getD t 0 = v := fun v => by
                rw [List.getD_eq_getElem?_getD, List.getElem?_set_self (by omega)]; rfl
              rw [hgs, List.set_set, wrap_wI, show BitVec.ofInt 32 (L.getD (4 * t + i) 0) = bW (L.getD (4 * t + i) 0) from rfl, show (8 : Int) = ((8 : Nat) : Int) from rfl, w_shl _ _ (by omega), w_or]
              rw [IntWalk.i64_in _ (by omega)]
              (refine Turned.of [0, 1, 2, 3, 4, 5] (ckF cap off t ++ [(9, .int .i64 ((i + 1 : Nat) : Int))]) (ckH xs s ((ringI S t).set t (wI (partW L t (i + 1)))) e.l) (by rfl) (by rfl) (by rfl) (by (repeat' (first | exact True.intro | exact rfl | refine And.intro ?_ ?_ | (simp [AV.ren, AV.rens, AObj.ren, Ent.ren, AV.inn, AV.inns, AObj.inn, *]; done)))) (by (repeat' (first | exact True.intro | exact rfl | refine And.intro ?_ ?_ | (simp [AV.ren, AV.rens, AObj.ren, Ent.ren, AV.inn, AV.inns, AObj.inn, *]; done)))) ?_)
              exact ⟨4 - (i + 1), by omega, i + 1, rfl, by omega, rfl, rfl⟩
          -- a word of the schedule
          have ht16 : 16 ≤ t := by omega
          have x0 := and15 t (by omega)
          have x1 : andI .i64 (IntKind.i64.wrap ((t : Int) + 1)) 15 = (((t - 15) % 16 : Nat) : Int) := by
            rw [IntWalk.i64_in _ (by omega)]
            have := and15 (t + 1) (by omega)
            rw [Int.natCast_add] at this
            rw [show (t : Int) + 1 = (t : Int) + ((1 : Nat) : Int) from rfl, this]; omega
          have x9 : andI .i64 (IntKind.i64.wrap ((t : Int) + 9)) 15 = (((t - 7) % 16 : Nat) : Int) := by
            rw [IntWalk.i64_in _ (by omega)]
            have := and15 (t + 9) (by omega)
            rw [Int.natCast_add] at this
            rw [show (t : Int) + 9 = (t : Int) + ((9 : Nat) : Int) from rfl, this]; omega
          have x14 : andI .i64 (IntKind.i64.wrap ((t : Int) + 14)) 15 = (((t - 2) % 16 : Nat) : Int) := by
            rw [IntWalk.i64_in _ (by omega)]
            have := and15 (t + 14) (by omega)
            rw [Int.natCast_add] at this
            rw [show (t : Int) + 14 = (t : Int) + ((14 : Nat) : Int) from rfl, this]; omega
          have p0 : 0 ≤ andI .i64 (t : Int) 15 ∧ andI .i64 (t : Int) 15 < ((16 : Nat) : Int) ∧ (andI .i64 (t : Int) 15).toNat = t % 16 ∧ (andI .i64 (t : Int) 15).toNat < 16 := by rw [x0]; omega
          have p1 : 0 ≤ andI .i64 (IntKind.i64.wrap ((t : Int) + 1)) 15 ∧ andI .i64 (IntKind.i64.wrap ((t : Int) + 1)) 15 < ((16 : Nat) : Int) ∧ (andI .i64 (IntKind.i64.wrap ((t : Int) + 1)) 15).toNat = (t - 15) % 16 ∧ (andI .i64 (IntKind.i64.wrap ((t : Int) + 1)) 15).toNat < 16 := by rw [x1]; omega
          have p9 : 0 ≤ andI .i64 (IntKind.i64.wrap ((t : Int) + 9)) 15 ∧ andI .i64 (IntKind.i64.wrap ((t : Int) + 9)) 15 < ((16 : Nat) : Int) ∧ (andI .i64 (IntKind.i64.wrap ((t : Int) + 9)) 15).toNat = (t - 7) % 16 ∧ (andI .i64 (IntKind.i64.wrap ((t : Int) + 9)) 15).toNat < 16 := by rw [x9]; omega
          have p14 : 0 ≤ andI .i64 (IntKind.i64.wrap ((t : Int) + 14)) 15 ∧ andI .i64 (IntKind.i64.wrap ((t : Int) + 14)) 15 < ((16 : Nat) : Int) ∧ (andI .i64 (IntKind.i64.wrap ((t : Int) + 14)) 15).toNat = (t - 2) % 16 ∧ (andI .i64 (IntKind.i64.wrap ((t : Int) + 14)) 15).toNat < 16 := by rw [x14]; omega
          obtain ⟨p0a, p0b, p0c, p0d⟩ := p0
          obtain ⟨p1a, p1b, p1c, p1d⟩ := p1
          obtain ⟨p9a, p9b, p9c, p9d⟩ := p9
          obtain ⟨p14a, p14b, p14c, p14d⟩ := p14
          have b16 := ringI_back S (t := t) (q := 16) ht16 (by omega) (by omega)
          rw [show (t - 16) % 16 = t % 16 by omega] at b16
          have b15 := ringI_back S (t := t) (q := 15) ht16 (by omega) (by omega)
          have b7 := ringI_back S (t := t) (q := 7) ht16 (by omega) (by omega)
          have b2 := ringI_back S (t := t) (q := 2) ht16 (by omega) (by omega)
          have hset := ringI_set S t
          have hnext : S.getD t 0 = nextW S t := by
            have := sch_next m hml t ht16 ht64
            rwa [hS] at this
          (conv => whnf)
          refine AW.draw [(false, 0), (false, 1), (false, 2), (false, 3), (false, 4), (false, 5), (false, 6), (false, 7), (false, 8), (false, 9), (false, 10), (false, 13), (false, 14), (false, 15), (false, 16), (false, 17), (false, 19), (false, 20), (false, 21), (false, 22), (false, 23), (true, 11), (false, 12), (false, 18), (true, 24), (false, 25), (false, 26), (true, 27)] (keep := fun _ => true) mixed_ok' tokT (by kernel_rfl) (by kernel_rfl) ?_
          ((conv => whnf); (repeat (((refine Exists.intro _ (And.intro (by ((conv => whnf); (repeat ((refine And.intro (by first | exact rfl | assumption) ?_); (conv => whnf))))) ?_)); (conv => whnf)))))
          refine AC.frame (drawn_ok (S.getD (t - 15) 0) 7 18 3 (by omega) (by omega) (by omega)) [] (by (repeat' (exact True.intro))) (by rfl) (by (repeat' (first | exact True.intro | refine And.intro ?_ ?_))) (by rw [p1c, b15]; rfl) ?_
          rintro r0 hp0 ⟨rfl, rfl⟩
          ((conv => whnf); (repeat (first | ((with_reducible (refine And.intro (show Go.Aw.againsK _ _ _ _ _ from ?_) ?_)); (focus (repeat' (first | ((with_reducible (show Go.Aw.againsK _ _ _ _ _)); (conv => whnf)) | ((with_reducible (show Go.Aw.againK _ _ _ _ _)); (conv => whnf)) | (with_reducible (exact True.intro)) | (with_reducible (refine And.intro ?_ ?_)) | exact rfl | assumption))); (conv => whnf)) | ((refine Exists.intro _ (And.intro (by ((conv => whnf); (repeat ((refine And.intro (by exact rfl) ?_); (conv => whnf))))) ?_)); (conv => whnf)))))
          refine AC.frame (drawn_ok (S.getD (t - 2) 0) 17 19 10 (by omega) (by omega) (by omega)) [] (by (repeat' (exact True.intro))) (by rfl) (by (repeat' (first | exact True.intro | refine And.intro ?_ ?_))) (by rw [p14c, b2]; rfl) ?_
          rintro r0 hp0 ⟨rfl, rfl⟩
          ((conv => whnf); (repeat (first | ((with_reducible (refine And.intro (show Go.Aw.againsK _ _ _ _ _ from ?_) ?_)); (focus (repeat' (first | ((with_reducible (show Go.Aw.againsK _ _ _ _ _)); (conv => whnf)) | ((with_reducible (show Go.Aw.againK _ _ _ _ _)); (conv => whnf)) | (with_reducible (exact True.intro)) | (with_reducible (refine And.intro ?_ ?_)) | exact rfl | assumption))); (conv => whnf)) | ((refine And.intro (by assumption) ?_); (conv => whnf)) | ((refine Exists.intro _ (And.intro (by ((conv => whnf); (repeat ((refine And.intro (by first | exact rfl | assumption) ?_); (conv => whnf))))) ?_)); (conv => whnf)))))
          rw [p0c, b16, p9c, b7, w_add, w_add, w_add]
          rw [show S.getD (t - 16) 0 + threeW (S.getD (t - 15) 0) 7 18 3 true + S.getD (t - 7) 0 + threeW (S.getD (t - 2) 0) 17 19 10 true = nextW S t from rfl, ← hnext, hset]
          (refine Turned.of [0, 1, 2, 3, 4, 5] (ckF cap off t) (ckH xs s (ringI S (t + 1)) e.l) (by rfl) (by rfl) (by rfl) (by (repeat' (first | exact True.intro | exact rfl | refine And.intro ?_ ?_ | (simp [AV.ren, AV.rens, AObj.ren, Ent.ren, AV.inn, AV.inns, AObj.inn, *]; done)))) (by (repeat' (first | exact True.intro | exact rfl | refine And.intro ?_ ?_ | (simp [AV.ren, AV.rens, AObj.ren, Ent.ren, AV.inn, AV.inns, AObj.inn, *]; done)))) ?_)
          exact ⟨rfl, rfl⟩
        · rintro fr hp ⟨rfl, rfl⟩
          have hel : e.l.length = 8 := rfl
          refine AW.pre tokT (fun _ => true) ?_; ((conv => whnf); (repeat (((refine And.intro (by omega) ?_); (conv => whnf)))))
          rw [show e.l.getD (Int.toNat 6) 0 = wI e.g from rfl, show e.l.getD (Int.toNat 4) 0 = wI e.e from rfl, show e.l.getD (Int.toNat 5) 0 = wI e.f from rfl, w_xor, w_and, w_xor]
          refine AW.pre tokT (fun _ => true) ?_; ((conv => whnf); (repeat (((refine And.intro (by omega) ?_); (conv => whnf)))))
          rw [show e.l.getD (Int.toNat 0) 0 = wI e.a from rfl, show e.l.getD (Int.toNat 1) 0 = wI e.b from rfl, show e.l.getD (Int.toNat 2) 0 = wI e.c from rfl, w_and, w_or, w_and, w_or]
          (refine AW.turnL [0, 1, 2, 3, 4, 5] (ckF cap off t ++ [(10, .int .u32 (wI (chW e.e e.f e.g))), (11, .int .u32 (wI (mjW e.a e.b e.c)))]) (ckH xs s (ringI S (t + 1)) e.l) (by rfl) (by rfl) (by rfl) (by (repeat' (first | exact True.intro | exact rfl | refine And.intro ?_ ?_ | (simp [AV.ren, AV.rens, AObj.ren, Ent.ren, AV.inn, AV.inns, AObj.inn, *]; done)))) (by (repeat' (first | exact True.intro | exact rfl | refine And.intro ?_ ?_ | (simp [AV.ren, AV.rens, AObj.ren, Ent.ren, AV.inn, AV.inns, AObj.inn, *]; done)))) ?_)
          have x0 := and15 t (by omega)
          have p0 : 0 ≤ andI .i64 (t : Int) 15 ∧ andI .i64 (t : Int) 15 < ((16 : Nat) : Int) ∧ (andI .i64 (t : Int) 15).toNat = t % 16 ∧ (andI .i64 (t : Int) 15).toNat < 16 := by rw [x0]; omega
          obtain ⟨p0a, p0b, p0c, p0d⟩ := p0
          have hrn := ringI_now S t
          have hk := kT_get t
          have hkl : kT.length = 64 := rfl
          refine AW.seq (AW.draw [(false, 0), (false, 1), (false, 2), (false, 3), (false, 6), (false, 8), (false, 9), (false, 10), (false, 11), (false, 13), (false, 14), (false, 15), (false, 16), (true, 4), (false, 5), (false, 7), (false, 12), (false, 17), (false, 18)] (keep := fun _ => true) mixed_ok' tokT (by kernel_rfl) (by kernel_rfl) ?_)
          ((conv => whnf); (repeat (((refine Exists.intro _ (And.intro (by ((conv => whnf); (repeat ((refine And.intro (by first | exact rfl | assumption | omega | (simp; omega)) ?_); (conv => whnf))))) ?_)); (conv => whnf)))))
          refine AC.frame (mixed3_ok e.e 6 11 25 (by omega) (by omega) (by omega)) [] (by (repeat' (exact True.intro))) (by rfl) (by (repeat' (first | exact True.intro | refine And.intro ?_ ?_))) (by rfl) ?_
          rintro r0 hp0 ⟨rfl, rfl⟩
          ((conv => whnf); (repeat (first | ((with_reducible (refine And.intro (show Go.Aw.againsK _ _ _ _ _ from ?_) ?_)); (focus (repeat' (first | ((with_reducible (show Go.Aw.againsK _ _ _ _ _)); (conv => whnf)) | ((with_reducible (show Go.Aw.againK _ _ _ _ _)); (conv => whnf)) | (with_reducible (exact True.intro)) | (with_reducible (refine And.intro ?_ ?_)) | exact rfl | assumption | omega | (simp; omega)))); (conv => whnf)) | ((refine Exists.intro _ (And.intro (by ((conv => whnf); (repeat ((refine And.intro (by exact rfl) ?_); (conv => whnf))))) ?_)); (conv => whnf)))))
          rw [p0c, hrn, show 0 + (t : Int).toNat = t by simp, hk, show e.l.getD (Int.toNat 7) 0 = wI e.h from rfl, w_add, w_add, w_add, w_add]
          obtain ⟨U, hU⟩ : ∃ U, e.h + threeW e.e 6 11 25 false + chW e.e e.f e.g + kW t + S.getD t 0 = U := ⟨_, rfl⟩
          rw [hU]
          (refine AW.turnL [0, 1, 2, 3, 4, 5] (ckF cap off t ++ [(11, .int .u32 (wI (mjW e.a e.b e.c))), (12, .int .u32 (wI U))]) (ckH xs s (ringI S (t + 1)) e.l) (by rfl) (by rfl) (by rfl) (by (repeat' (first | exact True.intro | exact rfl | refine And.intro ?_ ?_ | (simp [AV.ren, AV.rens, AObj.ren, Ent.ren, AV.inn, AV.inns, AObj.inn, *]; done)))) (by (repeat' (first | exact True.intro | exact rfl | refine And.intro ?_ ?_ | (simp [AV.ren, AV.rens, AObj.ren, Ent.ren, AV.inn, AV.inns, AObj.inn, *]; done)))) ?_)
          refine AW.pre tokT (fun _ => true) ?_; ((conv => whnf); (repeat (((refine And.intro (by omega) ?_); (conv => whnf)))))
          rw [show e.l.getD (Int.toNat 0) 0 = wI e.a from rfl]
          refine AC.frame (mixed3_ok e.a 2 13 22 (by omega) (by omega) (by omega)) [] (by (repeat' (exact True.intro))) (by rfl) (by (repeat' (first | exact True.intro | refine And.intro ?_ ?_))) (by rfl) ?_
          rintro r0 hp0 ⟨rfl, rfl⟩
          (conv => whnf)
          rw [w_add]
          obtain ⟨D, hD⟩ : ∃ D, threeW e.a 2 13 22 false + mjW e.a e.b e.c = D := ⟨_, rfl⟩
          rw [hD]
          have hst : sts s S (t + 1) = ⟨U + D, e.a, e.b, e.c, e.d + U, e.e, e.f, e.g⟩ := by
            simp only [sts, he, rnd]
            rw [← hU, ← hD]; rfl
          (refine AW.turnL [0, 1, 2, 3, 4, 5] (ckF cap off t ++ [(12, .int .u32 (wI U)), (13, .int .u32 (wI D))]) (ckH xs s (ringI S (t + 1)) e.l) (by rfl) (by rfl) (by rfl) (by (repeat' (first | exact True.intro | exact rfl | refine And.intro ?_ ?_ | (simp [AV.ren, AV.rens, AObj.ren, Ent.ren, AV.inn, AV.inns, AObj.inn, *]; done)))) (by (repeat' (first | exact True.intro | exact rfl | refine And.intro ?_ ?_ | (simp [AV.ren, AV.rens, AObj.ren, Ent.ren, AV.inn, AV.inns, AObj.inn, *]; done)))) ?_)
          refine AW.cutT (fun fr hp => fr = ckF cap off t ++ [(12, .int .u32 (wI U)), (13, .int .u32 (wI D))] ∧ hp = ckH xs s (ringI S (t + 1)) (shI e.l 0)) ?_ ?_
          · refine AW.pre tokT (fun _ => true) ?_; (conv => whnf)
            refine AW.block ?_
            (refine AW.turnL [0, 1, 2, 3, 4, 5] (ckF cap off t ++ [(12, .int .u32 (wI U)), (13, .int .u32 (wI D)), (14, .int .i64 7)]) (ckH xs s (ringI S (t + 1)) e.l) (by rfl) (by rfl) (by rfl) (by (repeat' (first | exact True.intro | exact rfl | refine And.intro ?_ ?_ | (simp [AV.ren, AV.rens, AObj.ren, Ent.ren, AV.inn, AV.inns, AObj.inn, *]; done)))) (by (repeat' (first | exact True.intro | exact rfl | refine And.intro ?_ ?_ | (simp [AV.ren, AV.rens, AObj.ren, Ent.ren, AV.inn, AV.inns, AObj.inn, *]; done)))) ?_)
            refine AW.loop (fun q fr hp => ∃ i, q = i ∧ i ≤ 7 ∧ fr = ckF cap off t ++ [(12, .int .u32 (wI U)), (13, .int .u32 (wI D)), (14, .int .i64 (i : Int))] ∧ hp = ckH xs s (ringI S (t + 1)) (shI e.l i)) 7 ?_ ?_
            · exact ⟨7, rfl, by omega, rfl, rfl⟩
            · rintro q fr hp ⟨i, rfl, hi, rfl, rfl⟩ -
              refine AW.post ?_
              refine ev_sound tokT (keep := fun _ => true) ?_
              (conv => whnf); (cases hi0 : (decide ((↑q : Int) > 0) : Bool) <;> (try simp only [beq_iff_eq, beq_eq_false_iff_ne, ne_eq, decide_eq_true_eq, decide_eq_false_iff_not, bne_iff_ne, bne_eq_false_iff_eq, Bool.not_eq_true, Bool.not_eq_false, gt_iff_lt, ge_iff_le] at hi0) <;> (try (exfalso; omega)))
              case' false =>
                (conv => whnf)
                have : q = 0 := by omega
                subst this
                (refine Turned.of [0, 1, 2, 3, 4, 5] (ckF cap off t ++ [(12, .int .u32 (wI U)), (13, .int .u32 (wI D))]) (ckH xs s (ringI S (t + 1)) (shI e.l 0)) (by rfl) (by rfl) (by rfl) (by (repeat' (first | exact True.intro | exact rfl | refine And.intro ?_ ?_ | (simp [AV.ren, AV.rens, AObj.ren, Ent.ren, AV.inn, AV.inns, AObj.inn, *]; done)))) (by (repeat' (first | exact True.intro | exact rfl | refine And.intro ?_ ?_ | (simp [AV.ren, AV.rens, AObj.ren, Ent.ren, AV.inn, AV.inns, AObj.inn, *]; done)))) ?_)
                exact ⟨rfl, rfl⟩
              have hsh := shI_step e (i := q) (by omega) hi
              have e1 : IntKind.i64.wrap ((q : Int) - 1) = ((q - 1 : Nat) : Int) := by rw [IntWalk.i64_in _ (by omega)]; omega
              have e1a : 0 ≤ IntKind.i64.wrap ((q : Int) - 1) := by rw [e1]; omega
              have e1b : IntKind.i64.wrap ((q : Int) - 1) < ((8 : Nat) : Int) := by rw [e1]; omega
              have e1c : (IntKind.i64.wrap ((q : Int) - 1)).toNat = q - 1 := by rw [e1, Int.toNat_natCast]
              have e1d : (IntKind.i64.wrap ((q : Int) - 1)).toNat < 8 := by omega
              ((conv => whnf); (repeat (((refine And.intro (by first | assumption | omega) ?_); (conv => whnf)))))
              rw [e1c, show (q : Int).toNat = q from Int.toNat_natCast _, hsh, e1]
              (refine Turned.of [0, 1, 2, 3, 4, 5] (ckF cap off t ++ [(12, .int .u32 (wI U)), (13, .int .u32 (wI D)), (14, .int .i64 ((q - 1 : Nat) : Int))]) (ckH xs s (ringI S (t + 1)) (shI e.l (q - 1))) (by rfl) (by rfl) (by rfl) (by (repeat' (first | exact True.intro | exact rfl | refine And.intro ?_ ?_ | (simp [AV.ren, AV.rens, AObj.ren, Ent.ren, AV.inn, AV.inns, AObj.inn, *]; done)))) (by (repeat' (first | exact True.intro | exact rfl | refine And.intro ?_ ?_ | (simp [AV.ren, AV.rens, AObj.ren, Ent.ren, AV.inn, AV.inns, AObj.inn, *]; done)))) ?_)
              exact ⟨q - 1, by omega, q - 1, rfl, by omega, rfl, rfl⟩
          · rintro fr hp ⟨rfl, rfl⟩
            refine ev_sound tokT (keep := fun _ => true) ?_
            ((conv => whnf); (repeat (((refine And.intro (by omega) ?_); (conv => whnf)))))
            rw [show (shI e.l 0).getD (Int.toNat 4) 0 = wI e.d from rfl, w_add, w_add]
            (refine Turned.of [0, 1, 2, 3, 4, 5] (ckF cap off t) (ckH xs s (ringI S (t + 1)) (((shI e.l 0).set 4 (wI (e.d + U))).set 0 (wI (U + D)))) (by rfl) (by rfl) (by rfl) (by (repeat' (first | exact True.intro | exact rfl | refine And.intro ?_ ?_ | (simp [AV.ren, AV.rens, AObj.ren, Ent.ren, AV.inn, AV.inns, AObj.inn, *]; done)))) (by (repeat' (first | exact True.intro | exact rfl | refine And.intro ?_ ?_ | (simp [AV.ren, AV.rens, AObj.ren, Ent.ren, AV.inn, AV.inns, AObj.inn, *]; done)))) ?_)
            refine ⟨rfl, ?_⟩
            rw [hst]; rfl
      · rintro fr hp ⟨rfl, rfl⟩
        refine ev_sound tokT (keep := fun _ => true) ?_
        (conv => whnf)
        rw [IntWalk.i64_in _ (by omega)]
        (refine Turned.of [0, 1, 2, 3, 4, 5] (ckF cap off ((t + 1 : Nat) : Int)) (ckH xs s (ringI S (t + 1)) (sts s S (t + 1)).l) (by rfl) (by rfl) (by rfl) (by (repeat' (first | exact True.intro | exact rfl | refine And.intro ?_ ?_ | (simp [AV.ren, AV.rens, AObj.ren, Ent.ren, AV.inn, AV.inns, AObj.inn, *]; done)))) (by (repeat' (first | exact True.intro | exact rfl | refine And.intro ?_ ?_ | (simp [AV.ren, AV.rens, AObj.ren, Ent.ren, AV.inn, AV.inns, AObj.inn, *]; done)))) ?_)
        exact ⟨64 - (t + 1), by omega, t + 1, rfl, by omega, rfl, rfl⟩
  · rintro fr hp ⟨rfl, rfl⟩
    obtain ⟨e, he⟩ : ∃ e, sts s S 64 = e := ⟨_, rfl⟩
    rw [he]
    refine AW.cutT (fun fr hp => fr = [(2, .ptr 1 0 0 0), (4, .ptr 2 0 0 0)] ∧ hp = [⟨1, true, none, .ints .u8 xs⟩, ⟨8, false, none, .var [.ints .u32 8 (s.add e).l]⟩, ⟨8, false, none, .var [.ints .u32 8 (List.replicate 8 0)]⟩]) ?_ ?_
    · refine AW.pre tokT (fun _ => true) ?_; (conv => whnf)
      refine AW.block ?_
      (refine AW.turnL [0, 1, 2, 5] [(2, .ptr 1 0 0 0), (4, .ptr 2 0 0 0), (7, .ptr 3 0 0 0), (15, .int .i64 0)] [⟨1, true, none, .ints .u8 xs⟩, ⟨8, false, none, .var [.ints .u32 8 s.l]⟩, ⟨8, false, none, .var [.ints .u32 8 (List.replicate 8 0)]⟩, ⟨8, false, none, .var [.ints .u32 8 e.l]⟩] (by rfl) (by rfl) (by rfl) (by (repeat' (first | exact True.intro | exact rfl | refine And.intro ?_ ?_ | (simp [AV.ren, AV.rens, AObj.ren, Ent.ren, AV.inn, AV.inns, AObj.inn, *]; done)))) (by (repeat' (first | exact True.intro | exact rfl | refine And.intro ?_ ?_ | (simp [AV.ren, AV.rens, AObj.ren, Ent.ren, AV.inn, AV.inns, AObj.inn, *]; done)))) ?_)
      refine AW.loop (fun q fr hp => ∃ (j : Nat), q = 8 - j ∧ j ≤ 8 ∧ fr = [(2, .ptr 1 0 0 0), (4, .ptr 2 0 0 0), (7, .ptr 3 0 0 0), (15, .int .i64 j)] ∧
        hp = [⟨1, true, none, .ints .u8 xs⟩, ⟨8, false, none, .var [.ints .u32 8 (hsI s e j)]⟩, ⟨8, false, none, .var [.ints .u32 8 (List.replicate 8 0)]⟩, ⟨8, false, none, .var [.ints .u32 8 e.l]⟩]) 8 ?_ ?_
      · exact ⟨0, rfl, by omega, rfl, rfl⟩
      · rintro q fr hp ⟨j, rfl, hj, rfl, rfl⟩ -
        refine AW.post ?_
        refine ev_sound tokT (keep := fun _ => true) ?_
        (conv => whnf); (cases hlt : (decide ((↑j : Int) < 8) : Bool) <;> (try simp only [beq_iff_eq, beq_eq_false_iff_ne, ne_eq, decide_eq_true_eq, decide_eq_false_iff_not, bne_iff_ne, bne_eq_false_iff_eq, Bool.not_eq_true, Bool.not_eq_false, gt_iff_lt, ge_iff_le] at hlt) <;> (try (exfalso; omega)))
        case' false =>
          (conv => whnf)
          have : j = 8 := by omega
          subst this
          (refine Turned.of [0, 1, 2] [(2, .ptr 1 0 0 0), (4, .ptr 2 0 0 0)] [⟨1, true, none, .ints .u8 xs⟩, ⟨8, false, none, .var [.ints .u32 8 (s.add e).l]⟩, ⟨8, false, none, .var [.ints .u32 8 (List.replicate 8 0)]⟩] (by rfl) (by rfl) (by rfl) (by (repeat' (first | exact True.intro | exact rfl | refine And.intro ?_ ?_ | (simp [AV.ren, AV.rens, AObj.ren, Ent.ren, AV.inn, AV.inns, AObj.inn, *]; done)))) (by (repeat' (first | exact True.intro | exact rfl | refine And.intro ?_ ?_ | (simp [AV.ren, AV.rens, AObj.ren, Ent.ren, AV.inn, AV.inns, AObj.inn, *]; done)))) ?_)
          exact ⟨rfl, rfl⟩
        have hj8 : j < 8 := by omega
        have hget := hsI_get s e hj8
        have hset := hsI_set s e hj8
        (conv => whnf)
        refine AW.draw [(false, 0), (false, 1), (false, 2), (false, 3), (false, 4), (false, 5), (false, 6), (false, 7), (false, 8), (true, 9)] (keep := fun _ => true) mixed_ok' tokT (by kernel_rfl) (by kernel_rfl) ?_
        ((conv => whnf); (repeat (first | ((with_reducible (refine And.intro (show Go.Aw.againsK _ _ _ _ _ from ?_) ?_)); (focus (repeat' (first | ((with_reducible (show Go.Aw.againsK _ _ _ _ _)); (conv => whnf)) | (with_reducible (exact True.intro))))); (conv => whnf)) | ((refine And.intro (by assumption) ?_); (conv => whnf)) | ((refine Exists.intro _ (And.intro (by ((conv => whnf); (repeat ((refine And.intro (by first | exact rfl | assumption | omega) ?_); (conv => whnf))))) ?_)); (conv => whnf)))))
        rw [show (j : Int).toNat = j from Int.toNat_natCast _, hget, hset]
        rw [IntWalk.i64_in _ (by omega)]
        (refine Turned.of [0, 1, 2, 3] [(2, .ptr 1 0 0 0), (4, .ptr 2 0 0 0), (7, .ptr 3 0 0 0), (15, .int .i64 ((j + 1 : Nat) : Int))] [⟨1, true, none, .ints .u8 xs⟩, ⟨8, false, none, .var [.ints .u32 8 (hsI s e (j + 1))]⟩, ⟨8, false, none, .var [.ints .u32 8 (List.replicate 8 0)]⟩, ⟨8, false, none, .var [.ints .u32 8 e.l]⟩] (by rfl) (by rfl) (by rfl) (by (repeat' (first | exact True.intro | exact rfl | refine And.intro ?_ ?_ | (simp [AV.ren, AV.rens, AObj.ren, Ent.ren, AV.inn, AV.inns, AObj.inn, *]; done)))) (by (repeat' (first | exact True.intro | exact rfl | refine And.intro ?_ ?_ | (simp [AV.ren, AV.rens, AObj.ren, Ent.ren, AV.inn, AV.inns, AObj.inn, *]; done)))) ?_)
        exact ⟨8 - (j + 1), by omega, j + 1, rfl, by omega, rfl, rfl⟩
    · rintro fr hp ⟨rfl, rfl⟩
      refine ev_sound tokT (keep := fun _ => true) ?_
      (conv => whnf)
      (refine Left.of [0] (.agg [.ints .u32 8 (s.add e).l]) [⟨1, true, none, .ints .u8 xs⟩] (by rfl) (by rfl) (by rfl) (by (repeat' (first | exact True.intro | exact rfl | refine And.intro ?_ ?_))) (by rfl) (by (repeat' (first | exact True.intro | exact rfl | refine And.intro ?_ ?_))) ?_)
      refine ⟨?_, rfl⟩
      unfold compr
      rw [hS, he]
end Go.Aw
