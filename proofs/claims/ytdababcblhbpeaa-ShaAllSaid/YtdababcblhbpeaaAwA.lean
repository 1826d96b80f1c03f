/-
  AwA: an abstract machine over the model: its values, its memory, and what they mean. Own work of this session.
-/
import Derived.Calls
import Derived.Scope
import Derived.Laws.Cells
set_option linter.unusedVariables false
set_option linter.unusedSimpArgs false
namespace Go.Aw

inductive AV where
  | int (k : IntKind) (n : Int)
  | bool (b : Bool)
  | str (l : List UInt8)
  | con (v : Value)
  | ptr (b i off j : Nat)
  | sl (b off len : Nat) (cap : Option Nat)
  | mp (b : Nat)
  | ints (k : IntKind) (n : Nat) (xs : List Int)
  | agg (vs : List AV)
  | tup (vs : List AV)
  | fn (f : FuncId) (caps : List AV)
  | top
  deriving Inhabited

def AV.sz : AV → Nat
  | .ints _ n _ => n
  | _ => 1

def asz : List AV → Nat
  | [] => 0
  | v :: vs => v.sz + asz vs

structure Loc where
  blk : Nat
  base : Nat
  tot : Nat
  esz : Nat

inductive AObj where
  | gone
  | ints (k : IntKind) (xs : List Int)
  | var (vs : List AV)
  | row (els : List (List AV))
  deriving Inhabited

def AObj.live : AObj → Bool
  | .gone => false
  | _ => true
/-- is there anything? an empty list without room needs no block -/
def AObj.lv (l : Loc) : AObj → Bool
  | .gone => false
  | .ints _ xs => !(xs.isEmpty && decide (l.tot ≤ l.base))
  | .row els => !(els.isEmpty && decide (l.tot ≤ l.base))
  | .var _ => true

structure Ent where
  esz : Nat
  ro : Bool
  par : Option Nat
  o : AObj
  deriving Inhabited

abbrev Hp := List Ent
abbrev Fr := List (Nat × AV)

/-! what a value stands for, blocks lying where 'ρ' says; 'n': how many blocks there are -/
mutual
def VR (ρ : Nat → Loc) (n : Nat) : AV → Value → Prop
  | .int k x, v => v = .int k x
  | .bool b, v => v = .bool b
  | .str l, v => v = .string ⟨l.toArray⟩
  | .con c, v => v = c ∧ c.oneCell' = true
  | .ptr b i off j, v => b < n ∧ v = .pointer (some ⟨(ρ b).blk, (ρ b).base + i * (ρ b).esz + off + j, none⟩)
  | .sl b off len cap, v => b < n ∧ ∃ ad c, v = .slice ad len c ∧ len ≤ c ∧ (∀ q, cap = some q → c = q) ∧
      (c = 0 ∨ (ad = some ⟨(ρ b).blk, (ρ b).base + off * (ρ b).esz, none⟩ ∧ (ρ b).base + (off + c) * (ρ b).esz ≤ (ρ b).tot))
  | .mp b, v => b < n ∧ v = .map (some (ρ b).blk)
  | .ints _ _ _, _ => False
  | .agg vs, v => ∃ cs : List Value, v = .agg cs.toArray ∧ CAt ρ n (fun i => cs[i]?) vs 0 ∧ cs.length = asz vs
  | .tup vs, v => ∃ cs : List Value, v = .tuple cs.toArray ∧ VRs ρ n vs cs
  | .fn f caps, v => ∃ cs : List Value, v = .func (.func f) #[] cs.toArray ∧ VRs ρ n caps cs
  | .top, _ => True
def VRs (ρ : Nat → Loc) (n : Nat) : List AV → List Value → Prop
  | [], cs => cs = []
  | v :: vs, cs => ∃ c cr, cs = c :: cr ∧ VR ρ n v c ∧ VRs ρ n vs cr
def CAt (ρ : Nat → Loc) (n : Nat) (f : Nat → Option Value) : List AV → Nat → Prop
  | [], _ => True
  | .ints k m xs :: vs, off => (xs.length = m ∧ ∀ j, j < m → f (off + j) = some (.int k (xs.getD j 0))) ∧ CAt ρ n f vs (off + m)
  | v :: vs, off => (∃ c, f off = some c ∧ c.oneCell' = true ∧ VR ρ n v c) ∧ CAt ρ n f vs (off + 1)
end

inductive TD where
  | int (k : IntKind)
  | bool
  | str
  | ptr
  | slice (e : TypeId)
  | array (n : Nat) (e : TypeId)
  | struct (fs : List (Nat × TypeId))
  | map (k e : TypeId)
  | func
  | other
  deriving Inhabited, DecidableEq

structure TI where
  d : TD
  sz : Nat
  bys : Nat
  z : List AV      -- the cells of the zero value
  eq : Bool := false      -- may it be held against another by its cells?
  deriving Inhabited

abbrev Tab := TypeId → Option TI

def TD.agg : TD → Bool
  | .array _ _ => true
  | .struct _ => true
  | _ => false
def td (T : Tab) (t : TypeId) : TD := match T t with | some i => i.d | none => .other

/-- the cells of a value -/
def AV.segs : AV → List AV
  | .agg vs => vs
  | v => [v]

def AV.isCell : AV → Bool
  | .int _ _ | .bool _ | .str _ | .ptr _ _ _ _ | .sl _ _ _ _ | .mp _ | .fn _ _ | .con _ => true
  | _ => false

/-- what lies where, in a world -/
def ObjOk (ρ : Nat → Loc) (n : Nat) (w : World) (l : Loc) (ro : Bool) : AObj → Prop
  | .gone => True
  | .ints k xs => (AObj.ints k xs).lv l = true → l.esz = 1 ∧ ∃ cells ty fz, w.heap[l.blk]? = some (.cells cells ty fz) ∧ l.tot = cells.size ∧ (ro = false → (fz.1 = fz.2 ∨ cells.size ≤ fz.1)) ∧
      l.base + xs.length ≤ cells.size ∧ ∀ j, j < xs.length → cells[l.base + j]? = some (.int k (xs.getD j 0))
  | .var vs => ∃ cells ty fz, w.heap[l.blk]? = some (.cells cells ty fz) ∧ l.tot = cells.size ∧ (ro = false → (fz.1 = fz.2 ∨ cells.size ≤ fz.1)) ∧
      l.base + l.esz ≤ cells.size ∧ asz vs = l.esz ∧ CAt ρ n (fun j => cells[l.base + j]?) vs 0
  | .row els => (AObj.row els).lv l = true → ∃ cells ty fz, w.heap[l.blk]? = some (.cells cells ty fz) ∧ l.tot = cells.size ∧ (ro = false → (fz.1 = fz.2 ∨ cells.size ≤ fz.1)) ∧
      l.base + els.length * l.esz ≤ cells.size ∧
      ∀ i x, els[i]? = some x → asz x = l.esz ∧ CAt ρ n (fun j => cells[l.base + i * l.esz + j]?) x 0

/-- the world in which something began, and which of its blocks lie still ('F') -/
structure Base extends World where
  F : Nat → Prop

/-- a memory as the abstract one says, over the world 'w0' in which the law began -/
structure HSat (w0 : Base) (ρ : Nat → Loc) (hp : Hp) (w : World) : Prop where
  size : ∀ i, w0.F i → i < w.heap.size
  old : ∀ i, w0.F i → w.heap[i]? = w0.heap[i]?
  tape : w.tape = w0.tape
  os : w.os = w0.os
  out : w.output = w0.output
  esz : ∀ b e, hp[b]? = some e → (ρ b).esz = e.esz
  obj : ∀ b e, hp[b]? = some e → ObjOk ρ hp.length w (ρ b) e.ro e.o
  own : ∀ b e, hp[b]? = some e → e.ro = false → e.o.lv (ρ b) = true → ¬ w0.F (ρ b).blk ∧ (ρ b).blk < w.heap.size
  views : ∀ b e p, hp[b]? = some e → e.par = some p → e.o.lv (ρ b) = true → e.ro = true ∧ (ρ b).blk = (ρ p).blk ∧ ∃ e', hp[p]? = some e' ∧ e'.ro = false ∧ e'.o.lv (ρ p) = true
  given : ∀ b e, hp[b]? = some e → e.ro = true → e.par = none → e.o.lv (ρ b) = true → w0.F (ρ b).blk
  apart : ∀ b b' e e', hp[b]? = some e → hp[b']? = some e' → b ≠ b' → e.ro = false → e'.ro = false → e.o.lv (ρ b) = true → e'.o.lv (ρ b') = true → (ρ b).blk ≠ (ρ b').blk

def Fr.find : Fr → Nat → Option AV
  | [], _ => none
  | (u, v) :: r, t => match Nat.beq u t with | true => some v | false => Fr.find r t

def FSat (ρ : Nat → Loc) (n : Nat) (fr : Fr) (tmps : Array Value) : Prop := ∀ t v, Fr.find fr t = some v → VR ρ n v (tmps.getD t undef)

/-- a call, whatever the world around it: each start that the abstract one speaks of ends in a return that 'K' speaks of -/
@[irreducible] def AC (P : Program) (f : FuncId) (args : List AV) (hp : Hp) (K : AV → Hp → Prop) : Prop :=
  (∃ fn, P.funcs[f]? = some fn ∧ (fn.name == "runtime.NumGoroutine") = false ∧ fn.body.isNone = false) ∧
  ∀ (w0 : Base) (ρ : Nat → Loc) (w : World) (vs : List Value), HSat w0 ρ hp w → VRs ρ hp.length args vs →
    Calls P f vs.toArray w fun e w' => ∃ (r : AV) (v : Value) (hp' : Hp) (ρ' : Nat → Loc), e = .returned v ∧ K r hp' ∧ VR ρ' hp'.length r v ∧ HSat w0 ρ' hp' w' ∧
      hp.length ≤ hp'.length ∧ ∀ b, b < hp.length → ρ' b = ρ b

/-- where a piece of code goes: on; out of a block; to a label; home -/
def Goes (Kn : Fr → Hp → Prop) (E : List (Nat × (Fr → Hp → Prop))) (G : Nat → Fr → Hp → Prop) (R : Fr → Hp → Prop) (e : Exit) (fr : Fr) (hp : Hp) : Prop :=
  match e with
  | .normal => Kn fr hp
  | .exit id => match E.find? (fun x => Nat.beq x.1 id) with | some x => x.2 fr hp | none => False
  | .goto l => G l fr hp
  | .ret => R fr hp
  | _ => False

/-- a piece of code, from each state that the abstract one speaks of; 'N': how many slots; 'M': how many blocks keep their place (those that stood when the function began) -/
@[irreducible] def AW (P : Program) (N M : Nat) (c : Code) (Kn : Fr → Hp → Prop) (E : List (Nat × (Fr → Hp → Prop))) (G : Nat → Fr → Hp → Prop) (R : Fr → Hp → Prop) (fr : Fr) (hp : Hp) : Prop :=
  ∀ (w0 : Base) (ρ : Nat → Loc) (a : Act) (w : World), HSat w0 ρ hp w → FSat ρ hp.length fr a.tmps → a.tmps.size = N → a.defers = [] → M ≤ hp.length →
    c.wp P (fun e a' w' => ∃ (fr' : Fr) (hp' : Hp) (ρ' : Nat → Loc), Goes Kn E G R e fr' hp' ∧ HSat w0 ρ' hp' w' ∧ FSat ρ' hp'.length fr' a'.tmps ∧ a'.tmps.size = N ∧ a'.defers = [] ∧
      M ≤ hp'.length ∧ ∀ b, b < M → ρ' b = ρ b) a w

end Go.Aw
