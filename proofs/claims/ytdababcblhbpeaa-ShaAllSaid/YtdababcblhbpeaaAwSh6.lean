/-
  AwSh6: the double sums, the images, what is fixed of sha. Own work.
-/
import Derived.Test.YtdababcblhbpeaaAwSh5
import Derived.Test.YtdababcblhbpeaaAwSr3
import Derived.Test.YtdababcblhbpeaaAwQ
set_option linter.unusedVariables false
set_option linter.unusedSimpArgs false
set_option maxRecDepth 20000
open Go.Proofs
namespace Go.Aw

theorem sum1_ok (xs : List Int) (off len : Nat) (cap c0 : Option Nat) (hol : off + len ≤ xs.length) (hl : len ≤ 1152921504606846976) :
    AC Try.prog 30 [.sl 0 0 1 c0] [⟨1, true, none, .row [[.sl 1 off len cap]]⟩, ⟨1, true, none, .ints .u8 xs⟩]
      (fun r hp' => r = .agg [.ints .u8 32 (shaL ((xs.drop off).take len))] ∧ hp' = [⟨1, true, none, .row [[.sl 1 off len cap]]⟩, ⟨1, true, none, .ints .u8 xs⟩]) := by
  have h := sum_ok xs [(off, len, cap)] c0 (by intro p hp; simp at hp; subst hp; exact hol) (by simp) (by simp [catP, Piece.cut]; omega)
  have e : catP xs [(off, len, cap)] = (xs.drop off).take len := by simp [catP, Piece.cut]
  rw [e] at h
  exact h

theorem twice_ok (xs : List Int) (ps : List Piece) (cap : Option Nat) (hps : ∀ p ∈ ps, p.1 + p.2.1 ≤ xs.length) (hn : ps.length ≤ 65536) (hl : (catP xs ps).length ≤ 1152921504606846976) :
    AC Try.prog 32 [.sl 0 0 ps.length cap] [⟨1, true, none, .row (ps.map Piece.av)⟩, ⟨1, true, none, .ints .u8 xs⟩]
      (fun r hp' => r = .agg [.ints .u8 32 (shaL (shaL (catP xs ps)))] ∧ hp' = [⟨1, true, none, .row (ps.map Piece.av)⟩, ⟨1, true, none, .ints .u8 xs⟩]) := by
  refine AC.left (AC.body tokT Try.func32 rfl rfl rfl (by decide) (by rfl) ?_)
  have hs := sum_ok xs ps cap hps hn hl
  have hfix : RowFix 2 (ps.map Piece.av) := by
    unfold RowFix
    intro x hx
    obtain ⟨p, _, rfl⟩ := List.mem_map.1 hx
    simp [Piece.av, AV.inns, AV.inn]
  obtain ⟨els, hels⟩ : ∃ els, ps.map Piece.av = els := ⟨_, rfl⟩
  rw [hels] at hs hfix ⊢
  obtain ⟨L, hL⟩ : ∃ L, shaL (catP xs ps) = L := ⟨_, rfl⟩
  have hLl : L.length = 32 := by rw [← hL, shaL_length]
  rw [hL] at hs ⊢
  refine AW.pre tokT (fun _ => true) ?_; (conv => whnf)
  refine AW.pre tokT (fun _ => true) ?_; (conv => whnf)
  refine AC.frame hs [0, 1] (by (repeat' (first | exact True.intro | exact rfl | refine And.intro ?_ ?_ | exact RowFix.renO (by assumption) rfl | exact RowFix.inn (by assumption) rfl))) (by rfl) (by (repeat' (first | exact True.intro | refine And.intro ?_ ?_ | (simp [AV.ren, AV.rens, AObj.ren, Ent.ren, AV.inn, AV.inns, AObj.inn, *]; done)))) (by rfl) ?_
  rintro r0 hp0 ⟨rfl, rfl⟩
  (conv => whnf)
  refine ev_sound tokT (keep := fun _ => true) ?_
  ((conv => whnf); (repeat (((refine And.intro (by omega) ?_); (conv => whnf)))))
  have h32 : (L.drop 0).take 32 = L := by rw [List.drop_zero, List.take_of_length_le (by omega)]
  refine AC.frame (AC.mono (sum1_ok L 0 32 (some 32) (some 1) (by omega) (by omega)) (K' := fun r hp' => r = .agg [.ints .u8 32 (shaL L)] ∧ hp' = [⟨1, true, none, .row [[.sl 1 0 32 (some 32)]]⟩, ⟨1, true, none, .ints .u8 L⟩]) (fun r hp' h => by rw [h32] at h; exact h)) [5, 4] (by (repeat' (first | exact True.intro | exact rfl | refine And.intro ?_ ?_ | (simp [AV.ren, AV.rens, AObj.ren, Ent.ren, AV.inn, AV.inns, AObj.inn, *]; done)))) (by rfl) (by (repeat' (first | exact True.intro | refine And.intro ?_ ?_ | (simp [AV.ren, AV.rens, AObj.ren, Ent.ren, AV.inn, AV.inns, AObj.inn, *]; done)))) (by rfl) ?_
  rintro r0 hp0 ⟨rfl, rfl⟩
  (conv => whnf)
  (refine Left.of [0, 1] (.agg [.ints .u8 32 (shaL L)]) [⟨1, true, none, .row els⟩, ⟨1, true, none, .ints .u8 xs⟩] (by rfl) (by rfl) (by rfl) (by (repeat' (first | exact True.intro | exact rfl | refine And.intro ?_ ?_ | exact RowFix.ren (by assumption) rfl | exact RowFix.inn (by assumption) rfl))) (by rfl) (by (repeat' (first | exact True.intro | exact rfl | refine And.intro ?_ ?_ | exact RowFix.ren (by assumption) rfl | exact RowFix.inn (by assumption) rfl))) ?_)
  exact ⟨rfl, rfl⟩

theorem reftwice_ok (xs : List Int) (off len : Nat) (cap : Option Nat) (hol : off + len ≤ xs.length) (hsz : len ≤ 4294967296) (hcap : ∀ c, cap = some c → len ≤ c) :
    AC Try.prog 33 [.sl 0 off len cap] [⟨1, true, none, .ints .u8 xs⟩]
      (fun r hp' => r = .agg [.ints .u8 32 (shaL (shaL ((xs.drop off).take len)))] ∧ hp' = [⟨1, true, none, .ints .u8 xs⟩]) := by
  refine AC.left (AC.body tokT Try.func33 rfl rfl rfl (by decide) (by rfl) ?_)
  have hs := refsum_ok xs off len cap hol hsz hcap
  obtain ⟨L, hL⟩ : ∃ L, shaL ((xs.drop off).take len) = L := ⟨_, rfl⟩
  have hLl : L.length = 32 := by rw [← hL, shaL_length]
  rw [hL] at hs ⊢
  refine AW.pre tokT (fun _ => true) ?_; (conv => whnf)
  refine AW.pre tokT (fun _ => true) ?_; (conv => whnf)
  refine AC.frame hs [0] (by (repeat' (first | exact True.intro | exact rfl | refine And.intro ?_ ?_))) (by rfl) (by (repeat' (first | exact True.intro | refine And.intro ?_ ?_ | (simp [AV.ren, AV.rens, AObj.ren, Ent.ren, AV.inn, AV.inns, AObj.inn, *]; done)))) (by rfl) ?_
  rintro r0 hp0 ⟨rfl, rfl⟩
  (conv => whnf)
  refine ev_sound tokT (keep := fun _ => true) ?_
  ((conv => whnf); (repeat (((refine And.intro (by omega) ?_); (conv => whnf)))))
  have h32 : (L.drop 0).take 32 = L := by rw [List.drop_zero, List.take_of_length_le (by omega)]
  refine AC.frame (AC.mono (refsum_ok L 0 32 (some 32) (by omega) (by omega) (fun c hc => by cases hc; omega)) (K' := fun r hp' => r = .agg [.ints .u8 32 (shaL L)] ∧ hp' = [⟨1, true, none, .ints .u8 L⟩]) (fun r hp' h => by rw [h32] at h; exact h)) [3] (by (repeat' (first | exact True.intro | exact rfl | refine And.intro ?_ ?_))) (by rfl) (by (repeat' (first | exact True.intro | refine And.intro ?_ ?_ | (simp [AV.ren, AV.rens, AObj.ren, Ent.ren, AV.inn, AV.inns, AObj.inn, *]; done)))) (by rfl) ?_
  rintro r0 hp0 ⟨rfl, rfl⟩
  (conv => whnf)
  (refine Left.of [0] (.agg [.ints .u8 32 (shaL L)]) [⟨1, true, none, .ints .u8 xs⟩] (by rfl) (by rfl) (by rfl) (by (repeat' (first | exact True.intro | exact rfl | refine And.intro ?_ ?_))) (by rfl) (by (repeat' (first | exact True.intro | exact rfl | refine And.intro ?_ ?_))) ?_)
  exact ⟨rfl, rfl⟩

theorem image_ok (l : List UInt8) (hl : l.length ≤ 4294967296) : AC Try.prog 44 [.str l] [] (fun r hp' => r = .agg [.ints .u8 32 (shaL (bytesOfStr l))] ∧ hp' = []) := by
  refine AC.left (AC.body tokT Try.func44 rfl rfl rfl (by decide) (by rfl) ?_)
  refine AW.pre tokT (fun _ => true) ?_; (conv => whnf)
  have hb : (bytesOfStr l).length = l.length := by simp [bytesOfStr]
  have hall : ((bytesOfStr l).drop 0).take l.length = bytesOfStr l := by rw [List.drop_zero, List.take_of_length_le (by omega)]
  refine ev_sound tokT (keep := fun _ => true) ?_
  ((conv => whnf); (repeat (((refine And.intro (by assumption) ?_); (conv => whnf)))))
  refine AC.frame (AC.mono (sum1_ok (bytesOfStr l) 0 l.length none (some 1) (by omega) (by omega)) (K' := fun r hp' => r = .agg [.ints .u8 32 (shaL (bytesOfStr l))] ∧ hp' = [⟨1, true, none, .row [[.sl 1 0 l.length none]]⟩, ⟨1, true, none, .ints .u8 (bytesOfStr l)⟩]) (fun r hp' h => by rw [hall] at h; exact h)) [2, 1] (by (repeat' (first | exact True.intro | exact rfl | refine And.intro ?_ ?_ | (simp [AV.ren, AV.rens, AObj.ren, Ent.ren, AV.inn, AV.inns, AObj.inn, *]; done)))) (by rfl) (by (repeat' (first | exact True.intro | refine And.intro ?_ ?_ | (simp [AV.ren, AV.rens, AObj.ren, Ent.ren, AV.inn, AV.inns, AObj.inn, *]; done)))) (by rfl) ?_
  rintro r0 hp0 ⟨rfl, rfl⟩
  (conv => whnf)
  (refine Left.of [] (.agg [.ints .u8 32 (shaL (bytesOfStr l))]) [] (by rfl) (by rfl) (by rfl) (by (repeat' (first | exact True.intro | refine And.intro ?_ ?_))) (by rfl) (by (repeat' (first | exact True.intro | refine And.intro ?_ ?_))) ?_)
  exact ⟨rfl, rfl⟩
theorem refimage_ok (l : List UInt8) (hl : l.length ≤ 4294967296) : AC Try.prog 45 [.str l] [] (fun r hp' => r = .agg [.ints .u8 32 (shaL (bytesOfStr l))] ∧ hp' = []) := by
  refine AC.left (AC.body tokT Try.func45 rfl rfl rfl (by decide) (by rfl) ?_)
  refine AW.pre tokT (fun _ => true) ?_; (conv => whnf)
  have hb : (bytesOfStr l).length = l.length := by simp [bytesOfStr]
  have hall : ((bytesOfStr l).drop 0).take l.length = bytesOfStr l := by rw [List.drop_zero, List.take_of_length_le (by omega)]
  refine ev_sound tokT (keep := fun _ => true) ?_
  ((conv => whnf); (repeat (((refine And.intro (by assumption) ?_); (conv => whnf)))))
  refine AC.frame (AC.mono (refsum_ok (bytesOfStr l) 0 l.length none (by omega) (by omega) (fun c hc => by cases hc)) (K' := fun r hp' => r = .agg [.ints .u8 32 (shaL (bytesOfStr l))] ∧ hp' = [⟨1, true, none, .ints .u8 (bytesOfStr l)⟩]) (fun r hp' h => by rw [hall] at h; exact h)) [1] (by (repeat' (first | exact True.intro | exact rfl | refine And.intro ?_ ?_))) (by rfl) (by (repeat' (first | exact True.intro | refine And.intro ?_ ?_ | (simp [AV.ren, AV.rens, AObj.ren, Ent.ren, AV.inn, AV.inns, AObj.inn, *]; done)))) (by rfl) ?_
  rintro r0 hp0 ⟨rfl, rfl⟩
  (conv => whnf)
  (refine Left.of [] (.agg [.ints .u8 32 (shaL (bytesOfStr l))]) [] (by rfl) (by rfl) (by rfl) (by (repeat' (first | exact True.intro | refine And.intro ?_ ?_))) (by rfl) (by (repeat' (first | exact True.intro | refine And.intro ?_ ?_))) ?_)
  exact ⟨rfl, rfl⟩

theorem parse_short (l : List UInt8) (h : l.length ≠ 64) : AC Try.prog 75 [.str l] [] (fun r hp' => r = .tup [.agg [.ints .u8 32 (List.replicate 32 0)], .bool false] ∧ hp' = []) := by
  refine AC.left (AC.body tokT Try.func75 rfl rfl rfl (by decide) (by rfl) ?_)
  refine AW.pre tokT (fun _ => true) ?_; (conv => whnf)
  refine ev_sound tokT (keep := fun _ => true) ?_
  (conv => whnf)
  (first | (first | (rw [show ((↑l.length : Int) != 64 : Bool) = true from (by first | (simp; done) | (simp; omega) | (simp [*]; done) | (simp [*]; omega))]) | (rw [show ((↑l.length : Int) != 64 : Bool) = false from (by first | (simp; done) | (simp; omega) | (simp [*]; done) | (simp [*]; omega))])))
  (conv => whnf)
  (refine Left.of [] (.tup [.agg [.ints .u8 32 (List.replicate 32 0)], .bool false]) [] (by rfl) (by rfl) (by rfl) (by (repeat' (first | exact True.intro | refine And.intro ?_ ?_))) (by rfl) (by (repeat' (first | exact True.intro | refine And.intro ?_ ?_))) ?_)
  exact ⟨rfl, rfl⟩

theorem less_ok (a b : List Int) (ha : a.length = 32) (hb : b.length = 32) : AC Try.prog 76 [.agg [.ints .u8 32 a], .agg [.ints .u8 32 b]] [] (fun r hp' => r = .bool (strLt (strOfBytes a) (strOfBytes b)) ∧ hp' = []) := by
  refine AC.left (AC.body tokT Try.func76 rfl rfl rfl (by decide) (by rfl) ?_)
  refine AW.pre tokT (fun _ => true) ?_; (conv => whnf)
  have ea : (a.drop 0).take 32 = a := by rw [List.drop_zero, List.take_of_length_le (by omega)]
  have eb : (b.drop 0).take 32 = b := by rw [List.drop_zero, List.take_of_length_le (by omega)]
  refine AW.cutT (fun fr hp => fr = [(4, .bool (strLt (strOfBytes a) (strOfBytes b)))] ∧ hp = []) (AW.drawAll (keep := fun _ => true) mixed_ok' tokT ?_) ?_
  · (conv => whnf)
    repeat' first
      | (refine Both.mk ?_ ?_ <;> ((conv => whnf); (repeat (((refine And.intro (by omega) ?_); (conv => whnf))))))
      | (rw [ea, eb]; (refine Turned.of [] [(4, .bool (strLt (strOfBytes a) (strOfBytes b)))] [] (by rfl) (by rfl) (by rfl) (by (repeat' (first | exact True.intro | exact rfl | refine And.intro ?_ ?_))) (by (repeat' (first | exact True.intro | exact rfl | refine And.intro ?_ ?_))) ?_); exact ⟨rfl, rfl⟩)
  · rintro fr hp ⟨rfl, rfl⟩
    refine ev_sound tokT (keep := fun _ => true) ?_
    (conv => whnf)
    (refine Left.of [] (.bool (strLt (strOfBytes a) (strOfBytes b))) [] (by rfl) (by rfl) (by rfl) (by (repeat' (exact True.intro))) (by rfl) (by (repeat' (exact True.intro))) ?_)
    exact ⟨rfl, rfl⟩

theorem abc_sum : (shaL [97, 98, 99]).take 4 = [0xba, 0x78, 0x16, 0xbf] := by decide +kernel

theorem awake2_ok : AC Try.prog 29 [] [] (fun r hp' => r = .bool true ∧ hp' = []) := by
  refine AC.left (AC.body tokT Try.func29 rfl rfl rfl (by decide) (by rfl) ?_)
  refine AW.pre tokT (fun _ => true) ?_; (conv => whnf)
  refine AW.pre tokT (fun _ => true) ?_; ((conv => whnf); (repeat (((refine And.intro (by first | omega | (simp; done)) ?_); (conv => whnf)))))
  have hl := shaL_length [97, 98, 99]
  have h4 := abc_sum
  obtain ⟨H, hH⟩ : ∃ H, shaL [97, 98, 99] = H := ⟨_, rfl⟩
  rw [hH] at hl h4
  refine AC.frame (AC.mono (sum1_ok [97, 98, 99] 0 3 (some 3) (some 1) (by decide) (by decide)) (K' := fun r hp' => r = .agg [.ints .u8 32 H] ∧ hp' = [⟨1, true, none, .row [[.sl 1 0 3 (some 3)]]⟩, ⟨1, true, none, .ints .u8 [97, 98, 99]⟩]) (fun r hp' h => by rw [show (([97, 98, 99] : List Int).drop 0).take 3 = [97, 98, 99] from rfl, hH] at h; exact h)) [1, 0] (by (repeat' (first | exact True.intro | exact rfl | refine And.intro ?_ ?_ | (simp [AV.ren, AV.rens, AObj.ren, Ent.ren, AV.inn, AV.inns, AObj.inn, *]; done)))) (by rfl) (by (repeat' (first | exact True.intro | refine And.intro ?_ ?_ | (simp [AV.ren, AV.rens, AObj.ren, Ent.ren, AV.inn, AV.inns, AObj.inn, *]; done)))) (by rfl) ?_
  rintro r0 hp0 ⟨rfl, rfl⟩
  (conv => whnf)
  refine AW.pre tokT (fun _ => true) ?_; (conv => whnf)
  refine AC.pure (parse_short [48, 48] (by decide)) (by (repeat' (first | exact True.intro | refine And.intro ?_ ?_))) (by (repeat' (first | exact True.intro | refine And.intro ?_ ?_))) ?_
  (conv => whnf)
  obtain ⟨T, hT⟩ : ∃ T, H = 0xba :: 0x78 :: 0x16 :: 0xbf :: T := ⟨H.drop 4, by rw [← List.take_append_drop 4 H, h4]; simp⟩
  subst hT
  refine ev_sound tokT (keep := fun _ => true) ?_
  ((conv => whnf); (repeat (((refine And.intro (by omega) ?_); (conv => whnf)))))
  refine AC.pure (less_ok (List.replicate 32 0) (0xba :: 0x78 :: 0x16 :: 0xbf :: T) (by decide) hl) (by (repeat' (first | exact True.intro | refine And.intro ?_ ?_))) (by (repeat' (exact True.intro))) ?_
  rw [show strLt (strOfBytes (List.replicate 32 0)) (strOfBytes (0xba :: 0x78 :: 0x16 :: 0xbf :: T)) = true from rfl]
  (conv => whnf)
  (refine Left.of [] (.bool true) [] (by rfl) (by rfl) (by rfl) (by (repeat' (exact True.intro))) (by rfl) (by (repeat' (exact True.intro))) ?_)
  exact ⟨rfl, rfl⟩
end Go.Aw
