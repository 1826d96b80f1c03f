/-
  AwCh12: a chain moves: the walk. Own work.
-/
import Derived.Test.YtdababcblhbpeaaAwCh11
set_option linter.unusedVariables false
set_option linter.unusedSimpArgs false
set_option maxRecDepth 20000
set_option maxHeartbeats 4000000
open Go.Proofs
namespace Go.Aw

theorem moves_ok (c : Ch) {N : Nat} (hc : KOk c N) (ht : Tree c) :
    AC Try.prog 95 [.ptr 0 0 0 0] [c.varE false 1 2 3, c.mapE false, c.wayE false, c.orpE true]
      (fun r hp' => r = .tup [.sl 5 0 (movesE c).length none, .int .i64 (movesN c)] ∧ hp' = [(movesC c).varE false 1 4 3, (movesC c).mapE false, ⟨32, false, none, .gone⟩, (movesC c).orpE true, (movesC c).wayE false, ⟨34, false, none, .row (rowE (movesE c))⟩]) := by
  refine AC.left (AC.bodyX tokT Try.func95 rfl rfl rfl (by decide) (by rfl) ?_)
  intro w0 ρ0 hds
  have hbest := best_ok c hc ht
  have hon := fun id hid => on_ok c id hid hc
  unfold Ch.varE Ch.mapE Ch.wayE Ch.orpE at hbest hon ⊢
  refine AX.pre (QD.ret hds) (ev_sound tokT (keep := fun _ => true) ?_); (conv => whnf)
  refine AX.pre (QD.ret hds) (ev_sound tokT (keep := fun _ => true) ?_); (conv => whnf)
  refine AX.pre (QD.ret hds) (ev_sound tokT (keep := fun _ => true) ?_); (conv => whnf)
  refine AX.pre (QD.ret hds) ?_
  refine AW.nils [5] 32 (.row []) _ _ rfl rfl rfl ?_
  refine AW.nilCell 5 0 34 (.row []) _ _ rfl rfl rfl ?_
  refine ev_sound tokT (keep := fun _ => true) ?_; (conv => whnf)
  refine AC.frame hbest [0, 1, 2, 3] (by (repeat' (first | exact True.intro | exact rfl | refine And.intro ?_ ?_ | (simp [AV.ren, AV.rens, AObj.ren, Ent.ren, AV.inn, AV.inns, AObj.inn, *]; done)))) (by rfl) (by (repeat' (first | exact True.intro | refine And.intro ?_ ?_ | (simp [AV.ren, AV.rens, AObj.ren, Ent.ren, AV.inn, AV.inns, AObj.inn, *]; done)))) (by rfl) ?_
  rintro r0 hp0 ⟨rfl, rfl⟩
  (conv => whnf)
  refine AX.turnL [0, 1, 2, 3, 4, 5, 8, 6, 7] [(1, .ptr 4 0 0 0), (4, .ptr 5 0 0 0), (5, .sl 7 0 0 none), (6, .ptr 6 0 0 0)] [c.varE false 1 2 3, c.mapE false, c.wayE false, c.orpE true, ⟨1, false, none, .var [.ptr 0 0 0 0]⟩, ⟨1, false, none, .var [.sl 8 0 0 none]⟩, ⟨32, false, none, .var [.ints .u8 32 c.best]⟩, ⟨32, false, none, .row (rowH [])⟩, ⟨34, false, none, .row (rowE [])⟩] (by rfl) (by rfl) (by rfl) (by (repeat' (first | exact True.intro | exact rfl | refine And.intro ?_ ?_ | (simp [AV.ren, AV.rens, AObj.ren, Ent.ren, AV.inn, AV.inns, AObj.inn, *]; done)))) (by (repeat' (first | exact True.intro | exact rfl | refine And.intro ?_ ?_ | (simp [AV.ren, AV.rens, AObj.ren, Ent.ren, AV.inn, AV.inns, AObj.inn, *]; done)))) ?_
  obtain ⟨K, hK, hbst⟩ := ht.best_in hc.way.1
  have hK0 : hgtOf c c.best = K.height := by unfold hgtOf; rw [hK]; rfl
  refine AX.cutT (QD.ret hds) (fun fr hp => fr = [(1, .ptr 4 0 0 0), (4, .ptr 5 0 0 0), (5, .sl 7 0 c.ups.length none), (6, .ptr 6 0 0 0)] ∧ hp = [c.varE false 1 2 3, c.mapE false, c.wayE false, c.orpE true, ⟨1, false, none, .var [.ptr 0 0 0 0]⟩, ⟨1, false, none, .var [.sl 8 0 0 none]⟩, ⟨32, false, none, .var [.ints .u8 32 c.forkId]⟩, ⟨32, false, none, .row (rowH c.ups)⟩, ⟨34, false, none, .row (rowE [])⟩]) ?_ ?_
  · refine AW.block ?_
    refine AW.loop (fun m fr hp => ∃ (id : List Int) (up : List (List Int)) (x : KH), m = x.height.toNat ∧ findK id c.known = some x ∧ up ++ (climb (x.height.toNat + 1) c id).1 = c.ups ∧ (climb (x.height.toNat + 1) c id).2 = c.forkId ∧ up.length + x.height.toNat ≤ 200000 ∧
      fr = [(1, .ptr 4 0 0 0), (4, .ptr 5 0 0 0), (5, .sl 7 0 up.length none), (6, .ptr 6 0 0 0)] ∧ hp = [c.varE false 1 2 3, c.mapE false, c.wayE false, c.orpE true, ⟨1, false, none, .var [.ptr 0 0 0 0]⟩, ⟨1, false, none, .var [.sl 8 0 0 none]⟩, ⟨32, false, none, .var [.ints .u8 32 id]⟩, ⟨32, false, none, .row (rowH up)⟩, ⟨34, false, none, .row (rowE [])⟩]) K.height.toNat ?_ ?_
    · refine ⟨c.best, [], K, rfl, hK, ?_, ?_, ?_, rfl, rfl⟩
      · unfold Ch.ups; rw [hK0]; rfl
      · unfold Ch.forkId; rw [hK0]
      · obtain ⟨b, hb⟩ := findK_mem hK
        have h1 := hc.hts _ hb
        have h2 := hc.sum
        simp only [] at h1
        simp only [List.length_nil]; omega
    · rintro m fr hp ⟨id, up, x, rfl, hx, hu1, hu2, hul, rfl, rfl⟩ -
      obtain ⟨b, hb⟩ := findK_mem hx
      have hidl : id.length = 32 := hc.ids _ hb
      refine AW.post ?_
      have hon := hon id hidl
      obtain ⟨B, hB⟩ : ∃ B, onB c id = B := ⟨_, rfl⟩
      rw [hB] at hon
      unfold Ch.varE Ch.mapE Ch.wayE Ch.orpE
      refine AW.pre tokT (fun _ => true) ?_; (conv => whnf)
      refine AC.frame hon [0, 1, 2, 3] (by (repeat' (first | exact True.intro | exact rfl | refine And.intro ?_ ?_ | (simp [AV.ren, AV.rens, AObj.ren, Ent.ren, AV.inn, AV.inns, AObj.inn, *]; done)))) (by rfl) (by (repeat' (first | exact True.intro | refine And.intro ?_ ?_ | (simp [AV.ren, AV.rens, AObj.ren, Ent.ren, AV.inn, AV.inns, AObj.inn, *]; done)))) (by rfl) ?_
      rintro r0 hp0 ⟨rfl, rfl⟩
      (conv => whnf)
      cases B with
      | true =>
        simp only [climb, hB, List.append_nil] at hu1 hu2
        (conv => whnf)
        (refine Turned.of [0, 1, 2, 3, 4, 5, 6, 7, 8] [(1, .ptr 4 0 0 0), (4, .ptr 5 0 0 0), (5, .sl 7 0 up.length none), (6, .ptr 6 0 0 0)] [c.varE false 1 2 3, c.mapE false, c.wayE false, c.orpE true, ⟨1, false, none, .var [.ptr 0 0 0 0]⟩, ⟨1, false, none, .var [.sl 8 0 0 none]⟩, ⟨32, false, none, .var [.ints .u8 32 id]⟩, ⟨32, false, none, .row (rowH up)⟩, ⟨34, false, none, .row (rowE [])⟩] (by rfl) (by rfl) (by rfl) (by (repeat' (first | exact True.intro | exact rfl | refine And.intro ?_ ?_ | (simp [AV.ren, AV.rens, AObj.ren, Ent.ren, AV.inn, AV.inns, AObj.inn, *]; done)))) (by (repeat' (first | exact True.intro | exact rfl | refine And.intro ?_ ?_ | (simp [AV.ren, AV.rens, AObj.ren, Ent.ren, AV.inn, AV.inns, AObj.inn, *]; done)))) ?_)
        rw [← hu1, ← hu2]
        exact ⟨rfl, rfl⟩
      | false =>
        obtain ⟨hpos, p, hp, hph, hpw⟩ := ht.off hc hx hB
        have hpr : prevOf c id = x.prev := by unfold prevOf; rw [hx]; rfl
        simp only [climb, hB, hpr] at hu1 hu2
        have hlk : findM id (knM c.known) = none ∧ findK id c.known = none ∨ ∃ b x, findM id (knM c.known) = some (b, id, KH.av x) ∧ findK id c.known = some x := findM_knM _ _
        (conv => whnf)
        refine AW.block ?_
        refine AW.pre tokT (fun _ => true) ?_; ((conv => whnf); (repeat (((refine And.intro (by first | (simp; done) | (simp [roomMost]; omega)) ?_); (conv => whnf)))))
        have hrow := rowH_snoc up up.length id rfl
        rw [hrow]
        refine AW.drawT (.pure 0 (.pure 1 (.pure 2 (.pure 3 (.pure 4 (.pure 5 (.pure 6 (.one 7 .fin)))))))) (keep := fun _ => true) mixed_okC tokT (by kernel_rfl) (by kernel_rfl) ?_
        ((conv => whnf); (repeat (((refine Exists.intro _ (And.intro (by ((conv => whnf); (repeat ((refine And.intro (by exact rfl) ?_); (conv => whnf))))) ?_)); (conv => whnf)))))
        have hfm : ∃ b, findM id (knM c.known) = some (b, id, x.av) := by
          rcases hlk with ⟨g1, g2⟩ | ⟨b', x', g1, g2⟩
          · rw [hx] at g2; cases g2
          · rw [hx] at g2; cases g2; exact ⟨b', g1⟩
        obtain ⟨b', hfm⟩ := hfm
        refine Exists.intro x.av (And.intro (by (conv => whnf); rw [hfm]; exact ⟨rfl, rfl⟩) ?_)
        ((conv => whnf); (repeat (first | ((with_reducible (refine And.intro (show Go.Aw.againsK _ _ _ _ _ from ?_) ?_)); (focus (repeat' (first | ((with_reducible (show Go.Aw.againsK _ _ _ _ _)); (conv => whnf)) | (with_reducible (exact True.intro))))); (conv => whnf)) | ((refine Exists.intro _ (And.intro (by ((conv => whnf); (repeat ((refine And.intro (by exact rfl) ?_); (conv => whnf))))) ?_)); (conv => whnf)))))
        (refine Turned.of [0, 1, 2, 3, 4, 5, 6, 10, 8] [(1, .ptr 4 0 0 0), (4, .ptr 5 0 0 0), (5, .sl 7 0 (up.length + 1) none), (6, .ptr 6 0 0 0)] [c.varE false 1 2 3, c.mapE false, c.wayE false, c.orpE true, ⟨1, false, none, .var [.ptr 0 0 0 0]⟩, ⟨1, false, none, .var [.sl 8 0 0 none]⟩, ⟨32, false, none, .var [.ints .u8 32 x.prev]⟩, ⟨32, false, none, .row (rowH (up ++ [id]))⟩, ⟨34, false, none, .row (rowE [])⟩] (by rfl) (by rfl) (by rfl) (by (repeat' (first | exact True.intro | exact rfl | refine And.intro ?_ ?_ | (simp [AV.ren, AV.rens, AObj.ren, Ent.ren, AV.inn, AV.inns, AObj.inn, *]; done)))) (by (repeat' (first | exact True.intro | exact rfl | refine And.intro ?_ ?_ | (simp [AV.ren, AV.rens, AObj.ren, Ent.ren, AV.inn, AV.inns, AObj.inn, *]; done)))) ?_)
        have hx0 := (hc.hts _ hb).1
        simp only [] at hx0
        have he : x.height.toNat = p.height.toNat + 1 := by omega
        rw [he] at hu1 hu2
        refine ⟨p.height.toNat, by omega, x.prev, up ++ [id], p, rfl, hp, ?_, hu2, ?_, by simp, rfl⟩
        · rw [List.append_assoc]; exact hu1
        · rw [List.length_append]; simp only [List.length_cons, List.length_nil]; omega
  · rintro fr hp ⟨rfl, rfl⟩
    obtain ⟨hfl, hfh, hfw⟩ := fork_ok ht hc
    have hcl := ups_ok ht hc
    have hwn := hc.wayn
    obtain ⟨fx, hfx, hfx2⟩ := (onB_iff hc).1 hcl.on
    have hfxh : fx.height = (c.fork : Int) := by rw [← hfh]; unfold hgtOf; rw [hfx]; rfl
    have hfm : ∃ b, findM c.forkId (knM c.known) = some (b, c.forkId, fx.av) := by
      rcases findM_knM c.forkId c.known with ⟨g1, g2⟩ | ⟨b', x', g1, g2⟩
      · rw [hfx] at g2; cases g2
      · rw [hfx] at g2; cases g2; exact ⟨b', g1⟩
    obtain ⟨bf, hfm⟩ := hfm
    have hh := height_ok c hc.wayn
    unfold Ch.varE Ch.mapE Ch.wayE Ch.orpE at hh ⊢
    refine AX.pre (QD.ret hds) (AW.drawT (.pure 0 (.pure 1 (.pure 2 (.pure 3 (.pure 4 (.pure 5 (.pure 6 (.pure 7 .fin)))))))) (keep := fun _ => true) mixed_okC tokT (by kernel_rfl) (by kernel_rfl) ?_)
    ((conv => whnf); (repeat (((refine Exists.intro _ (And.intro (by ((conv => whnf); (repeat ((refine And.intro (by exact rfl) ?_); (conv => whnf))))) ?_)); (conv => whnf)))))
    refine Exists.intro fx.av (And.intro (by (conv => whnf); rw [hfm]; exact ⟨rfl, rfl⟩) ?_)
    ((conv => whnf); (repeat (((refine Exists.intro _ (And.intro (by ((conv => whnf); (repeat ((refine And.intro (by exact rfl) ?_); (conv => whnf))))) ?_)); (conv => whnf)))))
    have hst : c.stops = decide ((c.way.length : Int) - 1 - c.fork > c.k) := by unfold Ch.stops; rfl
    refine AX.cutT (QD.ret hds) (fun fr hp => c.stops = false ∧ fr = [(1, .ptr 4 0 0 0), (4, .ptr 5 0 0 0), (5, .sl 7 0 c.ups.length none), (7, .int .i64 c.fork)] ∧ hp = [c.varE false 1 2 3, c.mapE false, c.wayE false, c.orpE true, ⟨1, false, none, .var [.ptr 0 0 0 0]⟩, ⟨1, false, none, .var [.sl 8 0 0 none]⟩, ⟨32, false, none, .var [.ints .u8 32 c.forkId]⟩, ⟨32, false, none, .row (rowH c.ups)⟩, ⟨34, false, none, .row (rowE [])⟩]) ?_ ?_
    · refine AW.seq (AW.drawT (.pure 0 (.pure 2 (.pure 4 (.pure 5 (.pure 6 (.pure 7 (.one 1 (.pure 3 (.pure 8 .fin))))))))) (keep := fun _ => true) mixed_okC tokT (by kernel_rfl) (by kernel_rfl) ?_)
      ((conv => whnf); (repeat (((refine Exists.intro _ (And.intro (by ((conv => whnf); (repeat ((refine And.intro (by exact rfl) ?_); (conv => whnf))))) ?_)); (conv => whnf)))))
      refine AC.frame hh [0, 1, 2, 3] (by (repeat' (first | exact True.intro | exact rfl | refine And.intro ?_ ?_ | (simp [AV.ren, AV.rens, AObj.ren, Ent.ren, AV.inn, AV.inns, AObj.inn, *]; done)))) (by rfl) (by (repeat' (first | exact True.intro | refine And.intro ?_ ?_ | (simp [AV.ren, AV.rens, AObj.ren, Ent.ren, AV.inn, AV.inns, AObj.inn, *]; done)))) (by rfl) ?_
      rintro r0 hp0 ⟨rfl, rfl⟩
      ((conv => whnf); (repeat (first | ((with_reducible (refine And.intro (show Go.Aw.againsK _ _ _ _ _ from ?_) ?_)); (focus (repeat' (first | ((with_reducible (show Go.Aw.againsK _ _ _ _ _)); (conv => whnf)) | ((with_reducible (show Go.Aw.againK _ _ _ _ _)); (conv => whnf)) | (with_reducible (exact True.intro)) | (with_reducible (refine And.intro ?_ ?_)) | exact rfl))); (conv => whnf)) | ((refine Exists.intro _ (And.intro (by ((conv => whnf); (repeat ((refine And.intro (by exact rfl) ?_); (conv => whnf))))) ?_)); (conv => whnf)))))
      rw [IntWalk.i64_in ((c.way.length : Int) - 1 - fx.height) (by have := hc.wayn; omega)]
      refine AW.condK ?_
      (conv => whnf)
      rw [hfxh]
      cases hs : c.stops with
      | true =>
        rw [hs] at hst
        rw [← hst]
        (conv => whnf)
        refine AW.pre tokT (fun _ => true) ?_; (conv => whnf)
        refine AW.pre tokT (fun _ => true) ?_; (conv => whnf)
        refine AW.nils [2] 34 (.row []) _ _ rfl rfl rfl ?_
        refine ev_sound tokT (keep := fun _ => true) ?_
        (conv => whnf)
        have e1 : movesC c = { c with halted := true } := by unfold movesC; rw [hs]
        have e2 : movesE c = [] := by unfold movesE; rw [hs]
        have e3 : movesN c = 9 := by unfold movesN; rw [hs]
        rw [e1, e2, e3]
        (refine Left.of [0, 1, 2, 3, 2, 9] (.tup [.sl 5 0 0 none, .int .i64 9]) [Ch.varE { c with halted := true } false 1 4 3, c.mapE false, ⟨32, false, none, .gone⟩, c.orpE true, c.wayE false, ⟨34, false, none, .row []⟩] (by rfl) (by rfl) (by rfl) (by (repeat' (first | exact True.intro | exact rfl | refine And.intro ?_ ?_ | (simp [AV.ren, AV.rens, AObj.ren, Ent.ren, AV.inn, AV.inns, AObj.inn, *]; done)))) (by rfl) (by (repeat' (first | exact True.intro | exact rfl | refine And.intro ?_ ?_ | (simp [AV.ren, AV.rens, AObj.ren, Ent.ren, AV.inn, AV.inns, AObj.inn, *]; done)))) ?_)
        exact ⟨rfl, rfl⟩
      | false =>
        rw [hs] at hst
        rw [← hst]
        refine ev_sound tokT (keep := fun _ => true) ?_
        (conv => whnf)
        (refine Turned.of [0, 1, 2, 3, 4, 5, 6, 7, 8] [(1, .ptr 4 0 0 0), (4, .ptr 5 0 0 0), (5, .sl 7 0 c.ups.length none), (7, .int .i64 c.fork)] [c.varE false 1 2 3, c.mapE false, c.wayE false, c.orpE true, ⟨1, false, none, .var [.ptr 0 0 0 0]⟩, ⟨1, false, none, .var [.sl 8 0 0 none]⟩, ⟨32, false, none, .var [.ints .u8 32 c.forkId]⟩, ⟨32, false, none, .row (rowH c.ups)⟩, ⟨34, false, none, .row (rowE [])⟩] (by rfl) (by rfl) (by rfl) (by (repeat' (first | exact True.intro | exact rfl | refine And.intro ?_ ?_ | (simp [AV.ren, AV.rens, AObj.ren, Ent.ren, AV.inn, AV.inns, AObj.inn, *]; done)))) (by (repeat' (first | exact True.intro | exact rfl | refine And.intro ?_ ?_ | (simp [AV.ren, AV.rens, AObj.ren, Ent.ren, AV.inn, AV.inns, AObj.inn, *]; done)))) ?_)
        exact ⟨rfl, rfl, rfl⟩
    · rintro fr hp ⟨hs, rfl, rfl⟩
      obtain ⟨D, hD⟩ : ∃ D, evDown c.way c.fork (c.way.length - 1 - c.fork) = D := ⟨_, rfl⟩
      have hDl : ∀ n, (evDown c.way c.fork n).length = n := fun n => by induction n with | zero => rfl | succ n ih => simp [evDown, ih]
      refine AX.cutT (QD.ret hds) (fun fr hp => fr = [(1, .ptr 4 0 0 0), (4, .ptr 5 0 0 0), (5, .sl 7 0 c.ups.length none), (7, .int .i64 c.fork)] ∧ hp = [c.varE false 1 2 3, c.mapE false, c.wayE false, c.orpE true, ⟨1, false, none, .var [.ptr 0 0 0 0]⟩, ⟨1, false, none, .var [.sl 8 0 D.length none]⟩, ⟨32, false, none, .var [.ints .u8 32 c.forkId]⟩, ⟨32, false, none, .row (rowH c.ups)⟩, ⟨34, false, none, .row (rowE D)⟩]) ?_ ?_
      · unfold Ch.varE Ch.mapE Ch.wayE Ch.orpE
        refine AW.pre tokT (fun _ => true) ?_; (conv => whnf)
        refine AC.frame hh [0, 1, 2, 3] (by (repeat' (first | exact True.intro | exact rfl | refine And.intro ?_ ?_ | (simp [AV.ren, AV.rens, AObj.ren, Ent.ren, AV.inn, AV.inns, AObj.inn, *]; done)))) (by rfl) (by (repeat' (first | exact True.intro | refine And.intro ?_ ?_ | (simp [AV.ren, AV.rens, AObj.ren, Ent.ren, AV.inn, AV.inns, AObj.inn, *]; done)))) (by rfl) ?_
        rintro r0 hp0 ⟨rfl, rfl⟩
        (conv => whnf)
        have hst0 : (c.way.length : Int) - 1 = ((c.fork + (c.way.length - 1 - c.fork) : Nat) : Int) := by omega
        rw [hst0]
        (refine AW.turnL [0, 1, 2, 3, 4, 5, 6, 7, 8] [(1, .ptr 4 0 0 0), (4, .ptr 5 0 0 0), (5, .sl 7 0 c.ups.length none), (7, .int .i64 c.fork), (8, .int .i64 ((c.fork + (c.way.length - 1 - c.fork) : Nat) : Int))] [c.varE false 1 2 3, c.mapE false, c.wayE false, c.orpE true, ⟨1, false, none, .var [.ptr 0 0 0 0]⟩, ⟨1, false, none, .var [.sl 8 0 0 none]⟩, ⟨32, false, none, .var [.ints .u8 32 c.forkId]⟩, ⟨32, false, none, .row (rowH c.ups)⟩, ⟨34, false, none, .row (rowE [])⟩] (by rfl) (by rfl) (by rfl) (by (repeat' (first | exact True.intro | exact rfl | refine And.intro ?_ ?_ | (simp [AV.ren, AV.rens, AObj.ren, Ent.ren, AV.inn, AV.inns, AObj.inn, *]; done)))) (by (repeat' (first | exact True.intro | exact rfl | refine And.intro ?_ ?_ | (simp [AV.ren, AV.rens, AObj.ren, Ent.ren, AV.inn, AV.inns, AObj.inn, *]; done)))) ?_)
        refine AW.block ?_
        refine AW.loop (fun n fr hp => ∃ E : List Ev, E ++ evDown c.way c.fork n = D ∧ c.fork + n < c.way.length ∧ fr = [(1, .ptr 4 0 0 0), (4, .ptr 5 0 0 0), (5, .sl 7 0 c.ups.length none), (7, .int .i64 c.fork), (8, .int .i64 ((c.fork + n : Nat) : Int))] ∧ hp = [c.varE false 1 2 3, c.mapE false, c.wayE false, c.orpE true, ⟨1, false, none, .var [.ptr 0 0 0 0]⟩, ⟨1, false, none, .var [.sl 8 0 E.length none]⟩, ⟨32, false, none, .var [.ints .u8 32 c.forkId]⟩, ⟨32, false, none, .row (rowH c.ups)⟩, ⟨34, false, none, .row (rowE E)⟩]) (c.way.length - 1 - c.fork) ?_ ?_
        · exact ⟨[], hD, by omega, rfl, rfl⟩
        · rintro n fr hp ⟨E, hE, hn, rfl, rfl⟩ -
          have hEl : E.length ≤ 1000000 := by
            have := congrArg List.length hE
            rw [List.length_append, hDl] at this
            have h2 := hDl (c.way.length - 1 - c.fork)
            rw [hD] at h2
            omega
          refine AW.post ?_
          unfold Ch.varE Ch.mapE Ch.wayE Ch.orpE
          refine AW.pre tokT (fun _ => true) ?_; (conv => whnf)
          cases n with
          | zero =>
            rw [decide_eq_false (show ¬ (((c.fork + 0 : Nat) : Int) > (c.fork : Int)) by omega)]
            (conv => whnf)
            simp only [evDown, List.append_nil] at hE
            rw [← hE]
            (refine Turned.of [0, 1, 2, 3, 4, 5, 6, 7, 8] [(1, .ptr 4 0 0 0), (4, .ptr 5 0 0 0), (5, .sl 7 0 c.ups.length none), (7, .int .i64 c.fork)] [c.varE false 1 2 3, c.mapE false, c.wayE false, c.orpE true, ⟨1, false, none, .var [.ptr 0 0 0 0]⟩, ⟨1, false, none, .var [.sl 8 0 E.length none]⟩, ⟨32, false, none, .var [.ints .u8 32 c.forkId]⟩, ⟨32, false, none, .row (rowH c.ups)⟩, ⟨34, false, none, .row (rowE E)⟩] (by rfl) (by rfl) (by rfl) (by (repeat' (first | exact True.intro | exact rfl | refine And.intro ?_ ?_ | (simp [AV.ren, AV.rens, AObj.ren, Ent.ren, AV.inn, AV.inns, AObj.inn, *]; done)))) (by (repeat' (first | exact True.intro | exact rfl | refine And.intro ?_ ?_ | (simp [AV.ren, AV.rens, AObj.ren, Ent.ren, AV.inn, AV.inns, AObj.inn, *]; done)))) ?_)
            exact ⟨rfl, rfl⟩
          | succ n =>
            rw [decide_eq_true (show ((c.fork + (n + 1) : Nat) : Int) > (c.fork : Int) by omega)]
            (conv => whnf)
            have e2 : (rowH c.way)[0 + ((c.fork + (n + 1) : Nat) : Int).toNat]? = some [.ints .u8 32 (c.way.getD (c.fork + n + 1) [])] := by
              rw [Nat.zero_add, Int.toNat_natCast]; exact way_at c _ hn
            refine AW.seq (AW.block (AW.drawT (.pure 0 (.pure 1 (.pure 2 (.pure 3 (.pure 4 (.pure 5 (.pure 6 (.pure 7 (.pure 8 (.pure 9 (.one 10 (.one 11 (.one 12 .fin))))))))))))) (keep := fun _ => true) mixed_okC tokT (by kernel_rfl) (by kernel_rfl) ?_))
            ((conv => whnf); (repeat (((refine Exists.intro _ (And.intro (by ((conv => whnf); (repeat ((refine And.intro (by first | exact rfl | omega) ?_); (conv => whnf))))) ?_)); (conv => whnf)))))
            refine Exists.intro (.agg [.ints .u8 32 (c.way.getD (c.fork + n + 1) [])]) (And.intro (by (conv => whnf); rw [e2]; exact ⟨rfl, rfl⟩) ?_)
            ((conv => whnf); (repeat (first | ((with_reducible (refine And.intro (show Go.Aw.againsK _ _ _ _ _ from ?_) ?_)); (focus (repeat' (first | ((with_reducible (show Go.Aw.againsK _ _ _ _ _)); (conv => whnf)) | ((with_reducible (show Go.Aw.againK _ _ _ _ _)); (conv => whnf)) | (with_reducible (exact True.intro)) | (with_reducible (refine And.intro ?_ ?_)) | exact rfl | omega))); (conv => whnf)) | ((refine Exists.intro _ (And.intro (by ((conv => whnf); (repeat ((refine And.intro (by exact rfl) ?_); (conv => whnf))))) ?_)); (conv => whnf)))))
            · rw [e2]; exact ⟨rfl, rfl⟩
            ((conv => whnf); (repeat (first | ((with_reducible (refine And.intro (show Go.Aw.againsK _ _ _ _ _ from ?_) ?_)); (focus (repeat' (first | ((with_reducible (show Go.Aw.againsK _ _ _ _ _)); (conv => whnf)) | ((with_reducible (show Go.Aw.againK _ _ _ _ _)); (conv => whnf)) | (with_reducible (exact True.intro)) | (with_reducible (refine And.intro ?_ ?_)) | exact rfl | omega))); (conv => whnf)) | ((refine And.intro (by first | (simp; done) | (simp [roomMost]; omega)) ?_); (conv => whnf)))))
            · rw [e2]; exact ⟨rfl, rfl⟩
            ((conv => whnf); (repeat (((with_reducible (refine And.intro (show Go.Aw.againsK _ _ _ _ _ from ?_) ?_)); (focus (repeat' (first | ((with_reducible (show Go.Aw.againsK _ _ _ _ _)); (conv => whnf)) | (with_reducible (exact True.intro))))); (conv => whnf)))))
            have hrow := rowE_snoc E E.length ⟨2, c.way.getD (c.fork + n + 1) [], ((c.fork + (n + 1) : Nat) : Int)⟩ rfl
            rw [hrow]
            refine ev_sound tokT (keep := fun _ => true) ?_; (conv => whnf)
            rw [show ((c.fork + (n + 1) : Nat) : Int) - 1 = ((c.fork + n : Nat) : Int) by omega, IntWalk.i64_in ((c.fork + n : Nat) : Int) (by omega)]
            (refine Turned.of [0, 1, 2, 3, 4, 5, 6, 7, 10] [(1, .ptr 4 0 0 0), (4, .ptr 5 0 0 0), (5, .sl 7 0 c.ups.length none), (7, .int .i64 c.fork), (8, .int .i64 ((c.fork + n : Nat) : Int))] [c.varE false 1 2 3, c.mapE false, c.wayE false, c.orpE true, ⟨1, false, none, .var [.ptr 0 0 0 0]⟩, ⟨1, false, none, .var [.sl 8 0 (E.length + 1) none]⟩, ⟨32, false, none, .var [.ints .u8 32 c.forkId]⟩, ⟨32, false, none, .row (rowH c.ups)⟩, ⟨34, false, none, .row (rowE (E ++ [⟨2, c.way.getD (c.fork + n + 1) [], ((c.fork + (n + 1) : Nat) : Int)⟩]))⟩] (by rfl) (by rfl) (by rfl) (by (repeat' (first | exact True.intro | exact rfl | refine And.intro ?_ ?_ | (simp [AV.ren, AV.rens, AObj.ren, Ent.ren, AV.inn, AV.inns, AObj.inn, *]; done)))) (by (repeat' (first | exact True.intro | exact rfl | refine And.intro ?_ ?_ | (simp [AV.ren, AV.rens, AObj.ren, Ent.ren, AV.inn, AV.inns, AObj.inn, *]; done)))) ?_)
            refine ⟨n, by omega, (E ++ [⟨2, c.way.getD (c.fork + n + 1) [], ((c.fork + (n + 1) : Nat) : Int)⟩]), ?_, by omega, rfl, by simp⟩
            rw [List.append_assoc]; exact hE
      · rintro fr hp ⟨rfl, rfl⟩
        unfold Ch.varE Ch.mapE Ch.wayE Ch.orpE
        refine AX.pre (QD.ret hds) (AW.drawT (.pure 0 (.pure 1 (.pure 2 (.pure 3 (.pure 4 (.pure 5 (.pure 6 (.pure 7 (.pure 8 (.pure 9 (.one 10 .fin))))))))))) (keep := fun _ => true) mixed_okC tokT (by kernel_rfl) (by kernel_rfl) ?_)
        ((conv => whnf); (repeat (first | ((with_reducible (refine And.intro (show Go.Aw.againsK _ _ _ _ _ from ?_) ?_)); (focus (repeat' (first | ((with_reducible (show Go.Aw.againsK _ _ _ _ _)); (conv => whnf)) | ((with_reducible (show Go.Aw.againK _ _ _ _ _)); (conv => whnf)) | (with_reducible (exact True.intro)) | (with_reducible (refine And.intro ?_ ?_)) | exact rfl))); (conv => whnf)) | ((refine Exists.intro _ (And.intro (by ((conv => whnf); (repeat ((refine And.intro (by first | exact rfl | omega | ((repeat (first | rw [IntWalk.i64_in _ (by omega)] | rw [IntWalk.u8_in _ (by omega)] | rw [IntWalk.u32_in _ (by omega)] | rw [IntWalk.u64_in _ (by omega)])); omega)) ?_); (conv => whnf))))) ?_)); (conv => whnf)))))
        rw [IntWalk.i64_in ((c.fork : Int) + 1) (by omega), show ((c.fork : Int) + 1).toNat = c.fork + 1 by omega]
        refine AX.turnL [0, 1, 2, 3, 4, 5, 6, 7, 8] [(1, .ptr 4 0 0 0), (4, .ptr 5 0 0 0), (5, .sl 7 0 c.ups.length none)] [⟨7, false, none, .var [.int .i64 c.k, .int .i64 c.most, .mp 1, .sl 2 0 (c.fork + 1) none, .sl 3 0 c.orphans.length none, .int .i64 c.came, .bool c.halted]⟩, c.mapE false, c.wayE false, c.orpE true, ⟨1, false, none, .var [.ptr 0 0 0 0]⟩, ⟨1, false, none, .var [.sl 8 0 D.length none]⟩, ⟨32, false, none, .var [.ints .u8 32 c.forkId]⟩, ⟨32, false, none, .row (rowH c.ups)⟩, ⟨34, false, none, .row (rowE D)⟩] (by rfl) (by rfl) (by rfl) (by (repeat' (first | exact True.intro | exact rfl | refine And.intro ?_ ?_ | (simp [AV.ren, AV.rens, AObj.ren, Ent.ren, AV.inn, AV.inns, AObj.inn, *]; done)))) (by (repeat' (first | exact True.intro | exact rfl | refine And.intro ?_ ?_ | (simp [AV.ren, AV.rens, AObj.ren, Ent.ren, AV.inn, AV.inns, AObj.inn, *]; done)))) ?_
        refine AX.shorten 2 (c.fork + 1) 32 false none (rowH c.way) [⟨7, false, none, .var [.int .i64 c.k, .int .i64 c.most, .mp 1, .sl 2 0 (c.fork + 1) none, .sl 3 0 c.orphans.length none, .int .i64 c.came, .bool c.halted]⟩, c.mapE false, ⟨32, false, none, .row (rowH (c.way.take (c.fork + 1)))⟩, c.orpE true, ⟨1, false, none, .var [.ptr 0 0 0 0]⟩, ⟨1, false, none, .var [.sl 8 0 D.length none]⟩, ⟨32, false, none, .var [.ints .u8 32 c.forkId]⟩, ⟨32, false, none, .row (rowH c.ups)⟩, ⟨34, false, none, .row (rowE D)⟩] (by decide) rfl (by rw [rowH_take]; rfl) ?_
        have hWl : (c.way.take (c.fork + 1)).length = c.fork + 1 := by rw [List.length_take]; omega
        have hwn2 : c.way.length ≤ 100001 := by have h1 := hc.way; have h2 := hc.sum; omega
        have hupl2 : c.ups.length ≤ 100000 := by
          obtain ⟨y, hy, x, hx, hxy⟩ := hcl.hgt
          obtain ⟨b1, hb1⟩ := findK_mem hy
          obtain ⟨b2, hb2⟩ := findK_mem hx
          have h1 := hc.hts _ hb1
          have h2 := hc.hts _ hb2
          have h3 := hc.sum
          simp only [] at h1 h2
          omega
        have hupl : c.ups.length ≤ 1000000 := by omega
        have hups : ∀ x ∈ c.ups, x.length = 32 := by
          intro x hx
          obtain ⟨j, hj⟩ := List.getElem?_of_mem (List.mem_reverse.2 hx)
          obtain ⟨y, hy, _⟩ := hcl.step j x hj
          obtain ⟨b, hb⟩ := findK_mem hy
          exact hc.ids _ hb
        have hb := backward_ok (rowH c.ups) c.ups.length false (by intro x hx; obtain ⟨y, _, rfl⟩ := List.mem_map.1 hx; simp [AV.inns, AV.inn])
        refine AX.seqW ?_
        refine AX.pre (R := _) (fun fr hp a w g k => QD.ret hds fr hp a w g k) (ev_sound tokT (keep := fun _ => true) ?_); (conv => whnf)
        refine AC.frame hb [7] (by (repeat' (first | exact True.intro | exact rfl | refine And.intro ?_ ?_ | (simp [AV.ren, AV.rens, AObj.ren, Ent.ren, AV.inn, AV.inns, AObj.inn, *]; done)))) (by rfl) (by (repeat' (first | exact True.intro | refine And.intro ?_ ?_ | (simp [AV.ren, AV.rens, AObj.ren, Ent.ren, AV.inn, AV.inns, AObj.inn, *]; done)))) (by rfl) ?_
        rintro r0 hp0 ⟨rfl, rfl⟩
        (conv => whnf)
        refine AX.turnL [0, 1, 2, 3, 4, 5, 6, 7, 9, 8, 2] [(1, .ptr 4 0 0 0), (4, .ptr 5 0 0 0), (77, .fn 125 [.ptr 8 0 0 0])] [⟨7, false, none, .var [.int .i64 c.k, .int .i64 c.most, .mp 1, .sl 10 0 (c.fork + 1) none, .sl 3 0 c.orphans.length none, .int .i64 c.came, .bool c.halted]⟩, c.mapE false, ⟨32, false, none, .gone⟩, c.orpE true, ⟨1, false, none, .var [.ptr 0 0 0 0]⟩, ⟨1, false, none, .var [.sl 9 0 D.length none]⟩, ⟨32, false, none, .var [.ints .u8 32 c.forkId]⟩, ⟨32, false, none, .row (rowH c.ups)⟩, ⟨1, false, none, .var [.sl 7 0 c.ups.length none]⟩, ⟨34, false, none, .row (rowE D)⟩, ⟨32, false, none, .row (rowH (c.way.take (c.fork + 1)))⟩] (by rfl) (by rfl) (by rfl) (by (repeat' (first | exact True.intro | exact rfl | refine And.intro ?_ ?_ | (simp [AV.ren, AV.rens, AObj.ren, Ent.ren, AV.inn, AV.inns, AObj.inn, *]; done)))) (by (repeat' (first | exact True.intro | exact rfl | refine And.intro ?_ ?_ | (simp [AV.ren, AV.rens, AObj.ren, Ent.ren, AV.inn, AV.inns, AObj.inn, *]; done)))) ?_
        refine AX.more 9 (by rfl) (by rfl) fun ρ1 hρ1 => ?_
        refine AX.range (fun j hp => j ≤ c.ups.length ∧ hp = [⟨7, false, none, .var [.int .i64 c.k, .int .i64 c.most, .mp 1, .sl 10 0 (c.fork + 1 + j) none, .sl 3 0 c.orphans.length none, .int .i64 c.came, .bool c.halted]⟩, c.mapE false, ⟨32, false, none, .gone⟩, c.orpE true, ⟨1, false, none, .var [.ptr 0 0 0 0]⟩, ⟨1, false, none, .var [.sl 9 0 (D.length + j) none]⟩, ⟨32, false, none, .var [.ints .u8 32 c.forkId]⟩, ⟨32, false, none, .row (rowH c.ups)⟩, ⟨1, false, none, .var [.sl 7 0 c.ups.length none]⟩, ⟨34, false, none, .row (rowE (D ++ evUp (c.ups.reverse.take j) (c.fork + 1)))⟩, ⟨32, false, none, .row (rowH (c.way.take (c.fork + 1) ++ c.ups.reverse.take j))⟩]) _ _ c.ups.length hds rfl (by simp [AV.inn, AV.inns]) Try.func125 rfl rfl (by decide) (by decide) (by decide) ⟨by omega, by simp [evUp]⟩ (back_walks c.ups hups hupl ρ1 _ ?_) ?_ ?_
        · rintro j hp ⟨hj, rfl⟩
          exact ⟨_, _, _, _, _, _, _, _, _, _, rfl⟩
        · rintro l j hp hj ⟨_, rfl⟩
          have hjl : (c.ups.reverse.take j).length = j := by rw [List.length_take, List.length_reverse]; omega
          have hsn : c.ups.reverse.take (j + 1) = c.ups.reverse.take j ++ [c.ups.getD (c.ups.length - 1 - j) []] := by
            rw [List.take_add_one]
            have hr := List.getElem?_reverse (l := c.ups) (i := j) hj
            rw [hr, List.getElem?_eq_getElem (by omega)]
            simp [List.getElem?_eq_getElem (l := c.ups) (i := c.ups.length - 1 - j) (by omega)]
          have hsnE : D ++ evUp (c.ups.reverse.take (j + 1)) (c.fork + 1) = (D ++ evUp (c.ups.reverse.take j) (c.fork + 1)) ++ [⟨1, c.ups.getD (c.ups.length - 1 - j) [], ((c.fork + 1 + j : Nat) : Int)⟩] := by
            rw [hsn, evUp_snoc, hjl, List.append_assoc]
          have hsnW : c.way.take (c.fork + 1) ++ c.ups.reverse.take (j + 1) = (c.way.take (c.fork + 1) ++ c.ups.reverse.take j) ++ [c.ups.getD (c.ups.length - 1 - j) []] := by
            rw [hsn, List.append_assoc]
          have hWj : (c.way.take (c.fork + 1) ++ c.ups.reverse.take j).length = c.fork + 1 + j := by rw [List.length_append, hWl, hjl]
          have hEj : (D ++ evUp (c.ups.reverse.take j) (c.fork + 1)).length = D.length + j := by rw [List.length_append, evUp_length, hjl]
          obtain ⟨x, hx⟩ : ∃ x, c.ups.getD (c.ups.length - 1 - j) [] = x := ⟨_, rfl⟩
          obtain ⟨Wj, hWe⟩ : ∃ Wj, c.way.take (c.fork + 1) ++ c.ups.reverse.take j = Wj := ⟨_, rfl⟩
          obtain ⟨Ej, hEe⟩ : ∃ Ej, D ++ evUp (c.ups.reverse.take j) (c.fork + 1) = Ej := ⟨_, rfl⟩
          obtain ⟨nW, hnW⟩ : ∃ nW, c.fork + 1 + j = nW := ⟨_, rfl⟩
          obtain ⟨nE, hnE⟩ : ∃ nE, D.length + j = nE := ⟨_, rfl⟩
          simp only [hsnE, hsnW]
          simp only [hx, hWe, hEe, ← Nat.add_assoc, hnW, hnE]
          rw [hWe, hnW] at hWj
          rw [hEe, hnE] at hEj
          have hDl2 : D.length ≤ 1000000 := by rw [← hD, hDl]; omega
          have hh2 : AC Try.prog 97 [.ptr 0 0 0 0] [⟨7, true, none, .var [.int .i64 c.k, .int .i64 c.most, .mp 1, .sl 2 0 (nW + 1) none, .sl 3 0 c.orphans.length none, .int .i64 c.came, .bool c.halted]⟩, c.mapE true, ⟨32, true, none, .row (rowH (Wj ++ [x]))⟩, c.orpE true] (fun r hp' => r = .int .i64 ((nW : Nat) : Int) ∧ hp' = [⟨7, true, none, .var [.int .i64 c.k, .int .i64 c.most, .mp 1, .sl 2 0 (nW + 1) none, .sl 3 0 c.orphans.length none, .int .i64 c.came, .bool c.halted]⟩, c.mapE true, ⟨32, true, none, .row (rowH (Wj ++ [x]))⟩, c.orpE true]) := by
            have h := height_ok { c with way := Wj ++ [x] } (by simp only [List.length_append, List.length_cons, List.length_nil, hWj]; omega)
            unfold Ch.varE Ch.mapE Ch.wayE Ch.orpE at h
            simp only [List.length_append, List.length_cons, List.length_nil, hWj, Nat.zero_add] at h
            rw [show ((nW + 1 : Nat) : Int) - 1 = (nW : Int) by omega] at h
            exact h
          refine AR.region (keep := fun _ => true) tokT (by kernel_rfl) ?_
          (conv => whnf)
          refine AR.post (AR.block (AR.seq (AR.drawT (.pure 0 (.pure 1 (.pure 2 (.pure 3 (.pure 4 (.pure 5 (.one 6 (.one 7 (.pure 8 (.pure 9 (.one 10 .fin))))))))))) (keep := fun _ => true) mixed_okC tokT (by kernel_rfl) (by kernel_rfl) (by kernel_rfl) ?_)))
          ((conv => whnf); (repeat (first | ((with_reducible (refine And.intro (show Go.Aw.againsK _ _ _ _ _ from ?_) ?_)); (focus (repeat' (first | ((with_reducible (show Go.Aw.againsK _ _ _ _ _)); (conv => whnf)) | ((with_reducible (show Go.Aw.againK _ _ _ _ _)); (conv => whnf)) | (with_reducible (exact True.intro)) | (with_reducible (refine And.intro ?_ ?_)) | exact rfl))); (conv => whnf)) | ((refine And.intro (by first | (simp; done) | (simp; omega) | (simp [roomMost]; omega)) ?_); (conv => whnf)) | ((refine Exists.intro _ (And.intro (by ((conv => whnf); (repeat ((refine And.intro (by exact rfl) ?_); (conv => whnf))))) ?_)); (conv => whnf)))))
          rw [rowH_snoc Wj nW x hWj.symm]
          refine AR.drawT (.pure 0 (.pure 1 (.pure 2 (.one 3 (.pure 4 (.one 5 (.one 6 (.one 7 .fin)))))))) (keep := fun _ => true) mixed_okC tokT (by kernel_rfl) (by kernel_rfl) (by kernel_rfl) ?_
          ((conv => whnf); (repeat (((refine Exists.intro _ (And.intro (by ((conv => whnf); (repeat ((refine And.intro (by exact rfl) ?_); (conv => whnf))))) ?_)); (conv => whnf)))))
          refine AC.frame hh2 [0, 1, 13, 3] (by (repeat' (first | exact True.intro | exact rfl | refine And.intro ?_ ?_ | (simp [AV.ren, AV.rens, AObj.ren, Ent.ren, AV.inn, AV.inns, AObj.inn, *]; done)))) (by rfl) (by (repeat' (first | exact True.intro | refine And.intro ?_ ?_ | (simp [AV.ren, AV.rens, AObj.ren, Ent.ren, AV.inn, AV.inns, AObj.inn, *]; done)))) (by rfl) ?_
          rintro r0 hp0 ⟨rfl, rfl⟩
          ((conv => whnf); (repeat (first | ((with_reducible (refine And.intro (show Go.Aw.againsK _ _ _ _ _ from ?_) ?_)); (focus (repeat' (first | ((with_reducible (show Go.Aw.againsK _ _ _ _ _)); (conv => whnf)) | ((with_reducible (show Go.Aw.againK _ _ _ _ _)); (conv => whnf)) | (with_reducible (exact True.intro)) | (with_reducible (refine And.intro ?_ ?_)) | exact rfl))); (conv => whnf)) | ((refine And.intro (by first | (simp; done) | (simp; omega) | (simp [roomMost]; omega)) ?_); (conv => whnf)) | ((refine Exists.intro _ (And.intro (by ((conv => whnf); (repeat ((refine And.intro (by exact rfl) ?_); (conv => whnf))))) ?_)); (conv => whnf)))))
          rw [rowE_snoc Ej nE ⟨1, x, (nW : Int)⟩ hEj.symm]
          (refine Turned.of [0, 1, 2, 3, 4, 5, 6, 7, 8, 15, 13] [] [⟨7, false, none, .var [.int .i64 c.k, .int .i64 c.most, .mp 1, .sl 10 0 (nW + 1) none, .sl 3 0 c.orphans.length none, .int .i64 c.came, .bool c.halted]⟩, c.mapE false, ⟨32, false, none, .gone⟩, c.orpE true, ⟨1, false, none, .var [.ptr 0 0 0 0]⟩, ⟨1, false, none, .var [.sl 9 0 (nE + 1) none]⟩, ⟨32, false, none, .var [.ints .u8 32 c.forkId]⟩, ⟨32, false, none, .row (rowH c.ups)⟩, ⟨1, false, none, .var [.sl 7 0 c.ups.length none]⟩, ⟨34, false, none, .row (rowE (Ej ++ [⟨1, x, (nW : Int)⟩]))⟩, ⟨32, false, none, .row (rowH (Wj ++ [x]))⟩] (by rfl) (by rfl) (by rfl) (by (repeat' (first | exact True.intro | exact rfl | refine And.intro ?_ ?_ | (simp [AV.ren, AV.rens, AObj.ren, Ent.ren, AV.inn, AV.inns, AObj.inn, *]; done)))) (by (repeat' (first | exact True.intro | exact rfl | refine And.intro ?_ ?_ | (simp [AV.ren, AV.rens, AObj.ren, Ent.ren, AV.inn, AV.inns, AObj.inn, *]; done)))) ?_)
          exact ⟨by omega, rfl⟩
        · rintro wD DD hp' hB ⟨_, rfl⟩ a w hk
          have htk : c.ups.reverse.take c.ups.length = c.ups.reverse := List.take_of_length_le (by simp)
          simp only [htk] at hk
          have e1 : movesC c = { c with way := c.way.take (c.fork + 1) ++ c.ups.reverse } := by unfold movesC; rw [hs]
          have e2 : movesE c = D ++ evUp c.ups.reverse (c.fork + 1) := by unfold movesE; rw [hs, hD]
          have e3 : movesN c = 0 := by unfold movesN; rw [hs]
          have hlE : (D ++ evUp c.ups.reverse (c.fork + 1)).length = D.length + c.ups.length := by rw [List.length_append, evUp_length, List.length_reverse]
          have hlW : (c.way.take (c.fork + 1) ++ c.ups.reverse).length = c.fork + 1 + c.ups.length := by rw [List.length_append, hWl, List.length_reverse]
          rw [e1, e2, e3]
          simp only [hlE, hlW]
          obtain ⟨nE, hnE⟩ : ∃ nE, D.length + c.ups.length = nE := ⟨_, rfl⟩
          obtain ⟨nW, hnW⟩ : ∃ nW, c.fork + 1 + c.ups.length = nW := ⟨_, rfl⟩
          obtain ⟨Wn, hWe⟩ : ∃ Wn, c.way.take (c.fork + 1) ++ c.ups.reverse = Wn := ⟨_, rfl⟩
          obtain ⟨En, hEe⟩ : ∃ En, D ++ evUp c.ups.reverse (c.fork + 1) = En := ⟨_, rfl⟩
          simp only [hnE, hnW, hWe, hEe] at hk ⊢
          refine (AX_iff (w0 := wD) (ρ0 := ρ0)).1 ?_ a w (hk.less (Nat.le_of_ble_eq_true rfl) hρ1)
          refine AX.pre (QD.behind hB) (ev_sound tokT (keep := fun _ => true) ?_); (conv => whnf)
          refine AX.last (Kn := fun _ _ => False) (fun _ _ _ _ g _ => g.elim) (QD.behind hB) (ev_sound tokT (keep := fun _ => true) ?_); (conv => whnf)
          (refine Left.of [0, 1, 2, 3, 10, 9] (.tup [.sl 5 0 nE none, .int .i64 0]) [⟨7, false, none, .var [.int .i64 c.k, .int .i64 c.most, .mp 1, .sl 4 0 nW none, .sl 3 0 c.orphans.length none, .int .i64 c.came, .bool c.halted]⟩, c.mapE false, ⟨32, false, none, .gone⟩, c.orpE true, ⟨32, false, none, .row (rowH Wn)⟩, ⟨34, false, none, .row (rowE En)⟩] (by rfl) (by rfl) (by rfl) (by (repeat' (first | exact True.intro | exact rfl | refine And.intro ?_ ?_ | (simp [AV.ren, AV.rens, AObj.ren, Ent.ren, AV.inn, AV.inns, AObj.inn, *]; done)))) (by rfl) (by (repeat' (first | exact True.intro | exact rfl | refine And.intro ?_ ?_ | (simp [AV.ren, AV.rens, AObj.ren, Ent.ren, AV.inn, AV.inns, AObj.inn, *]; done)))) ?_)
          exact ⟨rfl, rfl⟩
end Go.Aw
