/-
  Own work: parts of the proof: AwA AwB AwC AwD AwE AwF AwG AwH AwI.
-/
import Derived.Calls
import Derived.Scope
import Derived.Laws.Cells
import Derived.Laws.World
import Derived.Laws.IdiomCopy
import Derived.Laws.StructEq
import Derived.ChangeKeysEq
import Derived.WalkSpells
import Derived.Laws.Pointers
import Derived.Laws.Cover3
import Derived.IntWalk
import Derived.Laws.BytesString
import Derived.Laws.IdiomStrings
import Derived.Lib.Strings

section
/-
  AwA: an abstract machine over the model: its values, its memory, and what they mean. Own work of this session.
-/
set_option linter.unusedVariables false
set_option linter.unusedSimpArgs false
namespace Go.Aw

inductive AV where
  | int (k : IntKind) (n : Int)
  | bool (b : Bool)
  | str (l : List UInt8)
  | con (v : Value)
  | ptr (b i off j : Nat)
  | sl (b off len : Nat) (cap : Option Nat)
  | mp (b : Nat)
  | ints (k : IntKind) (n : Nat) (xs : List Int)
  | agg (vs : List AV)
  | tup (vs : List AV)
  | fn (f : FuncId) (caps : List AV)
  | top
  deriving Inhabited

def AV.sz : AV → Nat
  | .ints _ n _ => n
  | _ => 1

def asz : List AV → Nat
  | [] => 0
  | v :: vs => v.sz + asz vs

structure Loc where
  blk : Nat
  base : Nat
  tot : Nat
  esz : Nat

inductive AObj where
  | gone
  | ints (k : IntKind) (xs : List Int)
  | var (vs : List AV)
  | row (els : List (List AV))
  | map (k : IntKind) (kn : Nat) (es : List (Nat × List Int × AV)) (clock : Nat)
  | iter (m since : Nat) (seen : List Nat) (last : Nat)
  deriving Inhabited

def AObj.live : AObj → Bool
  | .gone => false
  | _ => true
/-- is there anything? an empty list without room needs no block -/
def AObj.lv (l : Loc) : AObj → Bool
  | .gone => false
  | .ints _ xs => !(xs.isEmpty && decide (l.tot ≤ l.base))
  | .row els => !(els.isEmpty && decide (l.tot ≤ l.base))
  | .var _ => true
  | .map _ _ _ _ => true
  | .iter _ _ _ _ => true

structure Ent where
  esz : Nat
  ro : Bool
  par : Option Nat
  o : AObj
  deriving Inhabited

abbrev Hp := List Ent
abbrev Fr := List (Nat × AV)

/-! what a value stands for, blocks lying where 'ρ' says; 'n': how many blocks there are -/
mutual
def VR (ρ : Nat → Loc) (n : Nat) : AV → Value → Prop
  | .int k x, v => v = .int k x
  | .bool b, v => v = .bool b
  | .str l, v => v = .string ⟨l.toArray⟩
  | .con c, v => v = c ∧ c.oneCell' = true
  | .ptr b i off j, v => b < n ∧ v = .pointer (some ⟨(ρ b).blk, (ρ b).base + i * (ρ b).esz + off + j, none⟩)
  | .sl b off len cap, v => b < n ∧ ∃ ad c, v = .slice ad len c ∧ len ≤ c ∧ (∀ q, cap = some q → c = q) ∧
      (c = 0 ∨ (ad = some ⟨(ρ b).blk, (ρ b).base + off * (ρ b).esz, none⟩ ∧ (ρ b).base + (off + c) * (ρ b).esz ≤ (ρ b).tot))
  | .mp b, v => b < n ∧ v = .map (some (ρ b).blk)
  | .ints _ _ _, _ => False
  | .agg vs, v => ∃ cs : List Value, v = .agg cs.toArray ∧ CAt ρ n (fun i => cs[i]?) vs 0 ∧ cs.length = asz vs
  | .tup vs, v => ∃ cs : List Value, v = .tuple cs.toArray ∧ VRs ρ n vs cs
  | .fn f caps, v => ∃ cs : List Value, v = .func (.func f) #[] cs.toArray ∧ VRs ρ n caps cs
  | .top, _ => True
def VRs (ρ : Nat → Loc) (n : Nat) : List AV → List Value → Prop
  | [], cs => cs = []
  | v :: vs, cs => ∃ c cr, cs = c :: cr ∧ VR ρ n v c ∧ VRs ρ n vs cr
def CAt (ρ : Nat → Loc) (n : Nat) (f : Nat → Option Value) : List AV → Nat → Prop
  | [], _ => True
  | .ints k m xs :: vs, off => (xs.length = m ∧ ∀ j, j < m → f (off + j) = some (.int k (xs.getD j 0))) ∧ CAt ρ n f vs (off + m)
  | v :: vs, off => (∃ c, f off = some c ∧ c.oneCell' = true ∧ VR ρ n v c) ∧ CAt ρ n f vs (off + 1)
end

inductive TD where
  | int (k : IntKind)
  | bool
  | str
  | ptr
  | slice (e : TypeId)
  | array (n : Nat) (e : TypeId)
  | struct (fs : List (Nat × TypeId))
  | map (k e : TypeId)
  | func
  | other
  deriving Inhabited, DecidableEq

structure TI where
  d : TD
  sz : Nat
  bys : Nat
  z : List AV      -- the cells of the zero value
  eq : Bool := false      -- may it be held against another by its cells?
  deriving Inhabited

abbrev Tab := TypeId → Option TI

def TD.isInt : TD → Bool
  | .int _ => true
  | _ => false
def TD.agg : TD → Bool
  | .array _ _ => true
  | .struct _ => true
  | _ => false
def td (T : Tab) (t : TypeId) : TD := match T t with | some i => i.d | none => .other

/-- the cells of a value -/
def AV.segs : AV → List AV
  | .agg vs => vs
  | v => [v]

def AV.isCell : AV → Bool
  | .int _ _ | .bool _ | .str _ | .ptr _ _ _ _ | .sl _ _ _ _ | .mp _ | .fn _ _ | .con _ => true
  | _ => false

/-- an entry of a map, and all of them -/
def ME (ρ : Nat → Loc) (n : Nat) (k : IntKind) (kn : Nat) (x : Nat × List Int × AV) (ce : MapEntry) : Prop :=
  ce.born = x.1 ∧ ce.key = .agg (x.2.1.map (Value.int k)).toArray ∧ x.2.1.length = kn ∧ VR ρ n x.2.2 ce.val
def MEs (ρ : Nat → Loc) (n : Nat) (k : IntKind) (kn : Nat) : List (Nat × List Int × AV) → List MapEntry → Prop
  | [], cs => cs = []
  | e :: es, cs => ∃ c cr, cs = c :: cr ∧ ME ρ n k kn e c ∧ MEs ρ n k kn es cr

/-- what lies where, in a world -/
def ObjOk (ρ : Nat → Loc) (n : Nat) (w : World) (l : Loc) (ro : Bool) : AObj → Prop
  | .gone => True
  | .ints k xs => (AObj.ints k xs).lv l = true → l.esz = 1 ∧ ∃ cells ty fz, w.heap[l.blk]? = some (.cells cells ty fz) ∧ l.tot = cells.size ∧ (ro = false → (fz.1 = fz.2 ∨ cells.size ≤ fz.1)) ∧
      l.base + xs.length ≤ cells.size ∧ ∀ j, j < xs.length → cells[l.base + j]? = some (.int k (xs.getD j 0))
  | .var vs => ∃ cells ty fz, w.heap[l.blk]? = some (.cells cells ty fz) ∧ l.tot = cells.size ∧ (ro = false → (fz.1 = fz.2 ∨ cells.size ≤ fz.1)) ∧
      l.base + l.esz ≤ cells.size ∧ asz vs = l.esz ∧ CAt ρ n (fun j => cells[l.base + j]?) vs 0
  | .row els => (AObj.row els).lv l = true → ∃ cells ty fz, w.heap[l.blk]? = some (.cells cells ty fz) ∧ l.tot = cells.size ∧ (ro = false → (fz.1 = fz.2 ∨ cells.size ≤ fz.1)) ∧
      l.base + els.length * l.esz ≤ cells.size ∧
      ∀ i x, els[i]? = some x → asz x = l.esz ∧ CAt ρ n (fun j => cells[l.base + i * l.esz + j]?) x 0
  | .map k kn es clock => ∃ ces : List MapEntry, w.heap[l.blk]? = some (.map ces.toArray clock) ∧ MEs ρ n k kn es ces
  | .iter m since seen last => m < n ∧ l.base = 0 ∧ w.heap[l.blk]? = some (.mapIter (some (ρ m).blk) since seen.reverse.toArray last)

/-- the world in which something began, which of its blocks lie still ('F'), and what is put off till the end of the function under way ('ds') -/
structure Base extends World where
  F : Nat → Prop
  ds : List Deferred

/-- a memory as the abstract one says, over the world 'w0' in which the law began -/
structure HSat (w0 : Base) (ρ : Nat → Loc) (hp : Hp) (w : World) : Prop where
  size : ∀ i, w0.F i → i < w.heap.size
  old : ∀ i, w0.F i → w.heap[i]? = w0.heap[i]?
  tape : w.tape = w0.tape
  os : w.os = w0.os
  out : w.output = w0.output
  esz : ∀ b e, hp[b]? = some e → (ρ b).esz = e.esz
  obj : ∀ b e, hp[b]? = some e → ObjOk ρ hp.length w (ρ b) e.ro e.o
  own : ∀ b e, hp[b]? = some e → e.ro = false → e.o.lv (ρ b) = true → ¬ w0.F (ρ b).blk ∧ (ρ b).blk < w.heap.size
  views : ∀ b e p, hp[b]? = some e → e.par = some p → e.o.lv (ρ b) = true → e.ro = true ∧ (ρ b).blk = (ρ p).blk ∧ ∃ e', hp[p]? = some e' ∧ e'.ro = false ∧ e'.o.lv (ρ p) = true
  given : ∀ b e, hp[b]? = some e → e.ro = true → e.par = none → e.o.lv (ρ b) = true → w0.F (ρ b).blk
  apart : ∀ b b' e e', hp[b]? = some e → hp[b']? = some e' → b ≠ b' → e.ro = false → e'.ro = false → e.o.lv (ρ b) = true → e'.o.lv (ρ b') = true → (ρ b).blk ≠ (ρ b').blk

def Fr.find : Fr → Nat → Option AV
  | [], _ => none
  | (u, v) :: r, t => match Nat.beq u t with | true => some v | false => Fr.find r t

def FSat (ρ : Nat → Loc) (n : Nat) (fr : Fr) (tmps : Array Value) : Prop := ∀ t v, Fr.find fr t = some v → VR ρ n v (tmps.getD t undef)

/-- a call, whatever the world around it: each start that the abstract one speaks of ends in a return that 'K' speaks of -/
@[irreducible] def AC (P : Program) (f : FuncId) (args : List AV) (hp : Hp) (K : AV → Hp → Prop) : Prop :=
  (∃ fn, P.funcs[f]? = some fn ∧ (fn.name == "runtime.NumGoroutine") = false ∧ fn.body.isNone = false) ∧
  ∀ (w0 : Base) (ρ : Nat → Loc) (w : World) (vs : List Value), HSat w0 ρ hp w → VRs ρ hp.length args vs →
    Calls P f vs.toArray w fun e w' => ∃ (r : AV) (v : Value) (hp' : Hp) (ρ' : Nat → Loc), e = .returned v ∧ K r hp' ∧ VR ρ' hp'.length r v ∧ HSat w0 ρ' hp' w' ∧
      hp.length ≤ hp'.length ∧ ∀ b, b < hp.length → ρ' b = ρ b

/-- where a piece of code goes: on; out of a block; to a label; home -/
def Goes (Kn : Fr → Hp → Prop) (E : List (Nat × (Fr → Hp → Prop))) (G : Nat → Fr → Hp → Prop) (R : Fr → Hp → Prop) (e : Exit) (fr : Fr) (hp : Hp) : Prop :=
  match e with
  | .normal => Kn fr hp
  | .exit id => match E.find? (fun x => Nat.beq x.1 id) with | some x => x.2 fr hp | none => False
  | .goto l => G l fr hp
  | .ret => R fr hp
  | _ => False

/-- a piece of code, from each state that the abstract one speaks of; 'N': how many slots; 'M': how many blocks keep their place (those that stood when the function began) -/
@[irreducible] def AW (P : Program) (N M : Nat) (c : Code) (Kn : Fr → Hp → Prop) (E : List (Nat × (Fr → Hp → Prop))) (G : Nat → Fr → Hp → Prop) (R : Fr → Hp → Prop) (fr : Fr) (hp : Hp) : Prop :=
  ∀ (w0 : Base) (ρ : Nat → Loc) (a : Act) (w : World), HSat w0 ρ hp w → FSat ρ hp.length fr a.tmps → a.tmps.size = N → a.defers = w0.ds → M ≤ hp.length →
    c.wp P (fun e a' w' => ∃ (fr' : Fr) (hp' : Hp) (ρ' : Nat → Loc), Goes Kn E G R e fr' hp' ∧ HSat w0 ρ' hp' w' ∧ FSat ρ' hp'.length fr' a'.tmps ∧ a'.tmps.size = N ∧ a'.defers = w0.ds ∧
      M ≤ hp'.length ∧ ∀ b, b < M → ρ' b = ρ b) a w

end Go.Aw
end

section
/-
  AwB: the evaluator of the abstract machine: one operation, a region, a piece of code, all told by what comes behind ('K'),
  so that the head of a goal can be brought to its form by 'whnf' alone. Own work of this session.
-/
set_option linter.unusedVariables false
set_option linter.unusedSimpArgs false
namespace Go.Aw

abbrev Kont := AV → Hp → Prop

def shlI (k : IntKind) (x y : Int) : Int := k.wrap (x * 2 ^ (min y.toNat k.bits))
def shrI (k : IntKind) (x y : Int) : Int := x.fdiv (2 ^ (min y.toNat k.bits))
def andI (k : IntKind) (x y : Int) : Int := k.wrap ((BitVec.ofInt k.bits x &&& BitVec.ofInt k.bits y).toNat : Int)
def orI (k : IntKind) (x y : Int) : Int := k.wrap ((BitVec.ofInt k.bits x ||| BitVec.ofInt k.bits y).toNat : Int)
def xorI (k : IntKind) (x y : Int) : Int := k.wrap ((BitVec.ofInt k.bits x ^^^ BitVec.ofInt k.bits y).toNat : Int)

/-! ### slots -/
def getK (t : Nat) : Fr → (AV → Prop) → Prop
  | [], K => K .top
  | (u, v) :: r, K => match Nat.beq u t with | true => K v | false => getK t r K
def putK (t : Nat) (v : AV) : Fr → (Fr → Prop) → Prop
  | [], K => K [(t, v)]
  | (u, x) :: r, K => match Nat.beq u t with | true => K ((t, v) :: r) | false => putK t v r fun r' => K ((u, x) :: r')
def keepK (keep : Nat → Bool) : Fr → (Fr → Prop) → Prop
  | [], K => K []
  | (u, x) :: r, K => match keep u with | true => keepK keep r (fun r' => K ((u, x) :: r')) | false => keepK keep r K

def avK (fr : Fr) (o : Operand) (K : AV → Prop) : Prop :=
  match o with
  | .tmp t => getK t fr K
  | .const v => (match v with
    | .int k n => K (.int k n)
    | .bool b => K (.bool b)
    | .string s => K (.str s.data.toList)
    | .pointer none => K (.con (.pointer none))
    | .slice none 0 0 => K (.con (.slice none 0 0))
    | .map none => K (.con (.map none))
    | .nilFunc => K (.con .nilFunc)
    | .nilIface => K (.con .nilIface)
    | _ => K .top)
  | .func f => K (.fn f [])
  | .global _ => K .top
def avsK (fr : Fr) : List Operand → (List AV → Prop) → Prop
  | [], K => K []
  | o :: r, K => avK fr o fun v => avsK fr r fun vs => K (v :: vs)
def avpK (fr : Fr) : List (Nat × Operand) → (List (Nat × AV) → Prop) → Prop
  | [], K => K []
  | (i, o) :: r, K => avK fr o fun v => avpK fr r fun vs => K ((i, v) :: vs)
def avoK (fr : Fr) : Option Operand → (Option AV → Prop) → Prop
  | none, K => K none
  | some o, K => avK fr o fun v => K (some v)

/-! ### blocks -/
def entK : Hp → Nat → (Ent → Prop) → Prop
  | [], _, _ => False
  | e :: r, b, K => match b with | 0 => K e | b + 1 => entK r b K
def setEntK : Hp → Nat → Ent → (Hp → Prop) → Prop
  | [], _, _, _ => False
  | e :: r, b, x, K => match b with | 0 => K (x :: r) | b + 1 => setEntK r b x fun r' => K (e :: r')
def dropViewsK (b : Nat) : Hp → (Hp → Prop) → Prop
  | [], K => K []
  | e :: r, K => match e.par with
    | some p => (match Nat.beq p b with
      | true => dropViewsK b r fun r' => K (⟨e.esz, e.ro, e.par, .gone⟩ :: r')
      | false => dropViewsK b r fun r' => K (e :: r'))
    | none => dropViewsK b r fun r' => K (e :: r')
def newEntK (e : Ent) : Hp → (Nat → Hp → Prop) → Prop
  | [], K => K 0 [e]
  | x :: r, K => newEntK e r fun n r' => K (n + 1) (x :: r')
def setObjK (hp : Hp) (b : Nat) (e : Ent) (o : AObj) (K : Hp → Prop) : Prop :=
  dropViewsK b hp fun hp' => setEntK hp' b ⟨e.esz, e.ro, e.par, o⟩ K

/-! ### lists of cells -/
def dropK : List AV → Nat → (List AV → Prop) → Prop
  | vs, 0, K => K vs
  | [], _ + 1, _ => False
  | v :: vs, n + 1, K => match Nat.ble v.sz (n + 1) with | true => dropK vs (n + 1 - v.sz) K | false => False
def takeK : List AV → Nat → (List AV → Prop) → Prop
  | _, 0, K => K []
  | [], _ + 1, _ => False
  | v :: vs, n + 1, K => match Nat.ble v.sz (n + 1) with | true => takeK vs (n + 1 - v.sz) (fun r => K (v :: r)) | false => False
def appK : List AV → List AV → (List AV → Prop) → Prop
  | [], b, K => K b
  | v :: a, b, K => appK a b fun r => K (v :: r)
def putSegsK (new : List AV) : List AV → Nat → (List AV → Prop) → Prop
  | vs, 0, K => dropK vs (asz new) fun r => appK new r K
  | [], _ + 1, _ => False
  | v :: vs, n + 1, K => match Nat.ble v.sz (n + 1) with | true => putSegsK new vs (n + 1 - v.sz) (fun r => K (v :: r)) | false => False
def loadSegK : List AV → Nat → Nat → (AV → Prop) → Prop
  | [], _, _, _ => False
  | v :: vs, 0, j, K => (match v with
    | .ints k n xs => j < n ∧ K (.int k (xs.getD j 0))
    | v => match v.isCell, Nat.beq j 0 with | true, true => K v | _, _ => False)
  | v :: vs, n + 1, j, K => match Nat.ble v.sz (n + 1) with | true => loadSegK vs (n + 1 - v.sz) j K | false => False
def storeSegK (x : AV) : List AV → Nat → Nat → (List AV → Prop) → Prop
  | [], _, _, _ => False
  | v :: vs, 0, j, K => (match v with
    | .ints k n xs => (match x with
      | .int k' m => match decide (k = k') with | true => j < n ∧ K (.ints k n (xs.set j m) :: vs) | false => False
      | _ => False)
    | v => match x.isCell, Nat.beq j 0 with | true, true => K (x :: vs) | _, _ => False)
  | v :: vs, n + 1, j, K => match Nat.ble v.sz (n + 1) with | true => storeSegK x vs (n + 1 - v.sz) j (fun r => K (v :: r)) | false => False

/-! ### parts of literals -/
def repK {α : Type} (x : α) : Nat → (List α → Prop) → Prop
  | 0, K => K []
  | n + 1, K => repK x n fun r => K (x :: r)
def setIntK (n : Int) : List Int → Nat → (List Int → Prop) → Prop
  | [], _, _ => False
  | x :: r, i, K => match i with | 0 => K (n :: r) | i + 1 => setIntK n r i fun r' => K (x :: r')
def setElK (v : List AV) : List (List AV) → Nat → (List (List AV) → Prop) → Prop
  | [], _, _ => False
  | x :: r, i, K => match i with | 0 => K (v :: r) | i + 1 => setElK v r i fun r' => K (x :: r')
def AV.isAgg : AV → Bool
  | .agg _ => true
  | _ => false
def partsSK (T : Tab) (fs : List (Nat × TypeId)) : List (Nat × AV) → List AV → (List AV → Prop) → Prop
  | [], segs, K => K segs
  | (i, v) :: r, segs, K => match fs[i]? with
    | some f => (match T f.2 with
      | some fi => (match Nat.beq (asz v.segs) fi.sz, v.isCell || v.isAgg with
        | true, true => putSegsK v.segs segs f.1 fun s => partsSK T fs r s K
        | _, _ => False)
      | none => False)
    | none => False
def partsIK (k : IntKind) : List (Nat × AV) → List Int → (List Int → Prop) → Prop
  | [], acc, K => K acc
  | (i, v) :: r, acc, K => match v with
    | .int k' n => (match decide (k = k') with | true => setIntK n acc i fun acc' => partsIK k r acc' K | false => False)
    | _ => False
def partsRK (sz : Nat) : List (Nat × AV) → List (List AV) → (List (List AV) → Prop) → Prop
  | [], acc, K => K acc
  | (i, v) :: r, acc, K => match Nat.beq (asz v.segs) sz, v.isCell || v.isAgg with | true, true => setElK v.segs acc i fun acc' => partsRK sz r acc' K | _, _ => False

/-! ### two values of plain data, held against each other -/
def eqsK : List AV → List AV → (Bool → Prop) → Prop
  | [], [], K => K true
  | v :: vs, u :: us, K => (match v, u with
    | .int k a, .int k' b => (match decide (k = k') with | true => eqsK vs us fun r => K ((a == b) && r) | false => False)
    | .bool a, .bool b => eqsK vs us fun r => K ((a == b) && r)
    | .str a, .str b => eqsK vs us fun r => K ((a == b) && r)
    | .ints k n a, .ints k' n' b => (match decide (k = k'), Nat.beq n n' with | true, true => eqsK vs us fun r => K ((a == b) && r) | _, _ => False)
    | _, _ => False)
  | _, _, _ => False
/-- do some cells fit a type of plain data? what is left behind them -/
def fitsF (g : TypeId → List AV → Option (Nat × List AV)) : List (Nat × TypeId) → Nat → List AV → Option (Nat × List AV)
  | [], o, s => some (o, s)
  | f :: fs, o, s => match Nat.beq f.1 o with
    | true => (match g f.2 s with
      | some r => fitsF g fs (o + r.1) r.2
      | none => none)
    | false => none
def fits (T : Tab) : Nat → TypeId → List AV → Option (Nat × List AV)
  | 0, _, _ => none
  | d + 1, t, s => match T t with
    | some i => (match i.d with
      | .int k => (match s with
        | .int k' _ :: r => (match decide (k = k') with | true => some (1, r) | false => none)
        | _ => none)
      | .bool => (match s with | .bool _ :: r => some (1, r) | _ => none)
      | .str => (match s with | .str _ :: r => some (1, r) | _ => none)
      | .array n e => (match td T e, s, i.eq with
        | .int k, .ints k' m _ :: r, true => (match decide (k = k'), Nat.beq m n, Nat.beq i.sz n with | true, true, true => some (n, r) | _, _, _ => none)
        | _, _, _ => none)
      | .struct fs => (match i.eq with | true => (match fitsF (fits T d) fs 0 s with | some r => (match Nat.beq i.sz r.1 with | true => some r | false => none) | none => none) | false => none)
      | _ => none)
    | none => none
def fitsAll (T : Tab) (t : TypeId) (s : List AV) : Bool := match T t with | some i => (match i.d.agg, i.eq, fits T 8 t s with | true, true, some (_, []) => true | _, _, _ => false) | none => false

def strLt : List UInt8 → List UInt8 → Bool
  | _, [] => false
  | [], _ :: _ => true
  | a :: x, b :: y => a < b || (a == b && strLt x y)

def evIntBin (op : BinOp) (k : IntKind) (a b : Int) (K : AV → Prop) : Prop :=
  match op with
  | .add => K (.int k (k.wrap (a + b)))
  | .sub => K (.int k (k.wrap (a - b)))
  | .mul => K (.int k (k.wrap (a * b)))
  | .quo => b ≠ 0 ∧ K (.int k (k.wrap (a.tdiv b)))
  | .rem => b ≠ 0 ∧ K (.int k (a.tmod b))
  | .and => K (.int k (andI k a b))
  | .or => K (.int k (orI k a b))
  | .xor => K (.int k (xorI k a b))
  | .lss => K (.bool (decide (a < b)))
  | .leq => K (.bool (decide (a ≤ b)))
  | .gtr => K (.bool (decide (a > b)))
  | .geq => K (.bool (decide (a ≥ b)))
  | .eql => K (.bool (a == b))
  | .neq => K (.bool (a != b))
  | _ => False

def evBin (T : Tab) (op : BinOp) (t : TypeId) (x y : AV) (K : AV → Prop) : Prop :=
  match x with
  | .int k a => (match y with
    | .int k' b => (match op with
      | .shl => 0 ≤ b ∧ K (.int k (shlI k a b))
      | .shr => 0 ≤ b ∧ K (.int k (shrI k a b))
      | op => match decide (k = k') with | true => evIntBin op k a b K | false => False)
    | _ => False)
  | .str a => (match y with
    | .str b => (match op with
      | .eql => K (.bool (a == b))
      | .neq => K (.bool (!(a == b)))
      | .lss => K (.bool (strLt a b))
      | .add => a.length + b.length ≤ 1099511627776 ∧ K (.str (a ++ b))
      | _ => False)
    | _ => False)
  | .bool a => (match y with
    | .bool b => (match op, td T t with
      | .eql, .bool => K (.bool (a == b))
      | .neq, .bool => K (.bool (!(a == b)))
      | _, _ => False)
    | _ => False)
  | .agg a => (match y with
    | .agg b => (match op, fitsAll T t a, fitsAll T t b with
      | .eql, true, true => eqsK a b fun r => K (.bool r)
      | .neq, true, true => eqsK a b fun r => K (.bool (!r))
      | _, _, _ => False)
    | _ => False)
  | .sl _ _ len _ => (match y with
    | .con (.slice none 0 0) => (match op, td T t with
      | .eql, .slice _ => 0 < len ∧ K (.bool false)
      | .neq, .slice _ => 0 < len ∧ K (.bool true)
      | _, _ => False)
    | _ => False)
  | .ptr _ _ _ _ => (match y with
    | .con (.pointer none) => (match op, td T t with
      | .eql, .ptr => K (.bool false)
      | .neq, .ptr => K (.bool true)
      | _, _ => False)
    | _ => False)
  | .con (.slice none 0 0) => (match y with
    | .con (.slice none 0 0) => (match op, td T t with
      | .eql, .slice _ => K (.bool true)
      | .neq, .slice _ => K (.bool false)
      | _, _ => False)
    | _ => False)
  | .con (.pointer none) => (match y with
    | .con (.pointer none) => (match op, td T t with
      | .eql, .ptr => K (.bool true)
      | .neq, .ptr => K (.bool false)
      | _, _ => False)
    | _ => False)
  | _ => False

def evUn (op : UnOp) (x : AV) (K : AV → Prop) : Prop :=
  match op, x with
  | .neg, .int k n => K (.int k (k.wrap (0 - n)))
  | .not, .bool b => K (.bool (!b))
  | _, _ => False

def bytesOfStr (l : List UInt8) : List Int := l.map fun b => (b.toNat : Int)
def strOfBytes (xs : List Int) : List UInt8 := xs.map fun n => UInt8.ofNat n.toNat

def intsOf (hp : Hp) (k : IntKind) (x : AV) (K : List Int → Prop) : Prop :=
  match x with
  | .con (.slice none 0 0) => K []
  | .str l => (match k with | .u8 => K (bytesOfStr l) | _ => False)
  | .sl b off len _ => entK hp b fun e => match e.o with
    | .ints k' xs => (match decide (k = k') with | true => off + len ≤ xs.length ∧ K ((xs.drop off).take len) | false => False)
    | _ => False
  | _ => False
def rowOf (hp : Hp) (sz : Nat) (x : AV) (K : List (List AV) → Prop) : Prop :=
  match x with
  | .con (.slice none 0 0) => K []
  | .sl b off len _ => entK hp b fun e => match e.o with
    | .row els => (match Nat.beq e.esz sz with | true => off + len ≤ els.length ∧ K ((els.drop off).take len) | false => False)
    | _ => False
  | _ => False

def roomMost : Nat := 4294967296      -- 2^32

/-- an append: 'base' is nil, or lies in a block of ours; the new slice lies in a block of a new number, the elder one is gone -/
def evAppend (hp : Hp) (esz : Nat) (base : AV) (n : Nat) (fresh : AObj) (mk : Nat → Nat → AObj → (AObj → Prop) → Prop) (K : Kont) : Prop :=
  match base with
  | .con (.slice none 0 0) =>
    (n = 0 → K (.con (.slice none 0 0)) hp) ∧ (0 < n → n ≤ roomMost ∧ newEntK ⟨esz, false, none, fresh⟩ hp fun b hp' => K (.sl b 0 n none) hp')
  | .sl b off len cap => entK hp b fun e => match e.ro, Nat.beq e.esz esz with
    | false, true => len + n ≤ roomMost ∧ mk off len e.o fun o => setObjK hp b e .gone fun hp' => newEntK ⟨esz, false, none, o⟩ hp' fun b' hp'' => K (.sl b' 0 (len + n) none) hp''
    | _, _ => False
  | _ => False

def evBuiltin (T : Tab) (hp : Hp) (b : Builtin) (ts : List TypeId) (args : List AV) (K : Kont) : Prop :=
  match b with
  | .len => (match ts, args with
    | t :: _, [x] => (match x with
      | .str l => (match td T t with | .str => K (.int .i64 (l.length : Int)) hp | _ => False)
      | .sl _ _ len _ => (match td T t with | .slice _ => K (.int .i64 (len : Int)) hp | _ => False)
      | .con (.slice none 0 0) => (match td T t with | .slice _ => K (.int .i64 0) hp | _ => False)
      | _ => (match td T t with | .array n _ => K (.int .i64 (n : Int)) hp | _ => False))
    | _, _ => False)
  | .min => (match args with
    | [.int k a, .int k' b] => K (.int k (if b < a then b else a)) hp
    | _ => False)
  | .max => (match args with
    | [.int k a, .int k' b] => K (.int k (if b > a then b else a)) hp
    | [.int k a, .int k' b, .int k'' c] => K (.int k (if c > (if b > a then b else a) then c else (if b > a then b else a))) hp
    | _ => False)
  | .append => (match ts, args with
    | [t, t2], [base, x] => (match (match td T t2 with | .slice _ => true | .str => true | _ => false), td T t with
     | true, d => (match d with
      | .slice e => (match T e with
        | some ei => (match ei.d with
          | .int k => (match Nat.beq ei.sz 1, Nat.ble ei.bys 8 with
            | true, true => intsOf hp k x fun src =>
                evAppend hp 1 base src.length (.ints k src) (fun off len o Ko => match o with
                  | .ints k' xs => (match decide (k = k') with | true => off + len ≤ xs.length ∧ Ko (.ints k ((xs.drop off).take len ++ src)) | false => False)
                  | _ => False) K
            | _, _ => False)
          | _ => (match Nat.ble 1 ei.sz, Nat.ble ei.bys 8192 with
            | true, true => rowOf hp ei.sz x fun src =>
                evAppend hp ei.sz base src.length (.row src) (fun off len o Ko => match o with
                  | .row els => off + len ≤ els.length ∧ Ko (.row ((els.drop off).take len ++ src))
                  | _ => False) K
            | _, _ => False))
        | none => False)
      | _ => False)
     | false, _ => False)
    | _, _ => False)
  | .copy => (match ts, args with
    | t :: _, [dst, x] => (match dst with
      | .sl b off len cap => (match td T t with
        | .slice e => (match T e with
          | some ei => (match ei.d, Nat.beq ei.sz 1 with
            | .int k, true => intsOf hp k x fun src => entK hp b fun en => (match en.ro, en.o with
              | false, .ints k' xs => (match decide (k = k') with
                | true => off + len ≤ xs.length ∧ setObjK hp b en (.ints k' (xs.take off ++ src.take (min src.length len) ++ xs.drop (off + min src.length len)))
                    fun hp' => K (.int .i64 (min src.length len : Nat)) hp'
                | false => False)
              | _, _ => False)
            | _, _ => False)
          | none => False)
        | _ => False)
      | _ => False)
    | _, _ => False)
  | _ => False

/-- the bounds of a slice expression -/
def bndK (x : Option AV) (dflt : Nat) (K : Nat → Prop) : Prop :=
  match x with
  | none => K dflt
  | some v => match v with
    | .int _ n => 0 ≤ n ∧ K n.toNat
    | _ => False

def evLoad (T : Tab) (hp : Hp) (t : TypeId) (a : AV) (K : AV → Prop) : Prop :=
  match a with
  | .ptr b x off j => (match T t with
    | some i => entK hp b fun e => (match e.o with
      | .ints k xs => (match i.d.agg, Nat.beq off 0, Nat.beq j 0 with | false, true, true => x < xs.length ∧ K (.int k (xs.getD x 0)) | _, _, _ => False)
      | .var vs => (match Nat.beq x 0 with
        | true => (match i.d.agg with
          | true => (match Nat.beq j 0 with | true => dropK vs off fun r => takeK r i.sz fun s => K (.agg s) | false => False)
          | false => loadSegK vs off j K)
        | false => False)
      | .row els => (match els[x]? with
        | some vs => (match i.d.agg with
          | true => (match Nat.beq j 0 with | true => dropK vs off fun r => takeK r i.sz fun s => K (.agg s) | false => False)
          | false => loadSegK vs off j K)
        | none => False)
      | _ => False)
    | none => False)
  | _ => False

def evStoreIn (i : TI) (vs : List AV) (off j : Nat) (v : AV) (K : List AV → Prop) : Prop :=
  match i.d.agg with
  | true => (match Nat.beq j 0 with
    | true => (match v with
      | .agg s => (match Nat.beq (asz s) i.sz with | true => putSegsK s vs off K | false => False)
      | _ => False)
    | false => False)
  | false => (match Nat.beq i.sz 1 with | true => storeSegK v vs off j K | false => False)

def evStore (T : Tab) (hp : Hp) (t : TypeId) (a v : AV) (K : Hp → Prop) : Prop :=
  match a with
  | .ptr b x off j => (match T t with
    | some i => entK hp b fun e => (match e.ro with
      | false => (match e.o with
        | .ints k xs => (match i.d.agg, Nat.beq i.sz 1, Nat.beq off 0, Nat.beq j 0 with
          | false, true, true, true => (match v with
            | .int k' n => (match decide (k = k') with | true => x < xs.length ∧ setObjK hp b e (.ints k (xs.set x n)) K | false => False)
            | _ => False)
          | _, _, _, _ => False)
        | .var vs => (match Nat.beq x 0 with
          | true => evStoreIn i vs off j v fun vs' => setObjK hp b e (.var vs') K
          | false => False)
        | .row els => (match els[x]? with
          | some vs => evStoreIn i vs off j v fun vs' => setObjK hp b e (.row (els.set x vs')) K
          | none => False)
        | _ => False)
      | true => False)
    | none => False)
  | _ => False

def evConv (T : Tab) (hp : Hp) (s d : TypeId) (x : AV) (K : Kont) : Prop :=
  match x with
  | .int _ n => (match td T s, td T d with | .int _, .int k => K (.int k (k.wrap n)) hp | _, _ => False)
  | .str l => (match td T s, td T d with
    | .str, .str => K (.str l) hp
    | .str, .slice e => (match td T e with
      | .int .u8 => l.length ≤ roomMost ∧ newEntK ⟨1, false, none, .ints .u8 (bytesOfStr l)⟩ hp fun b hp' => K (.sl b 0 l.length none) hp'
      | _ => False)
    | _, _ => False)
  | x => (match td T s, td T d with
    | .slice e, .str => (match td T e with
      | .int .u8 => intsOf hp .u8 x fun xs => K (.str (strOfBytes xs)) hp
      | _ => False)
    | .slice _, .slice e => (match td T e, Nat.beq s d, x with
      | .int .u8, true, .sl b off len cap => entK hp b fun en => (match en.ro, en.o with | false, .ints _ xs => 0 < len ∧ off + len ≤ xs.length ∧ K (.sl b off len cap) hp | _, _ => False)
      | _, _, _ => False)
    | _, _ => False)

def evSlice (T : Tab) (hp : Hp) (t : TypeId) (x : AV) (lo hi : Option AV) (K : Kont) : Prop :=
  match x with
  | .str l => (match td T t with
    | .str => bndK hi l.length fun h => bndK lo 0 fun a => a ≤ h ∧ h ≤ l.length ∧ K (.str ((l.take h).drop a)) hp
    | _ => False)
  | .sl b off len cap => (match td T t with
    | .slice e => (match T e with
      | some ei => entK hp b fun en => (match Nat.beq ei.sz en.esz with
        | true => bndK hi len fun h => bndK lo 0 fun a => a ≤ h ∧ (match cap with
          | some c => h ≤ c ∧ K (.sl b (off + a) (h - a) (some (c - a))) hp
          | none => h ≤ len ∧ K (.sl b (off + a) (h - a) none) hp)
        | false => False)
      | none => False)
    | _ => False)
  | .con (.slice none 0 0) => (match td T t with
    | .slice e => (match T e with
      | some ei => bndK hi 0 fun h => bndK lo 0 fun a => a = 0 ∧ h = 0 ∧ K (.con (.slice none 0 0)) hp
      | none => False)
    | _ => False)
  | .ptr b i off j => (match td T t with
    | .array n e => (match T e with
      | some ei => entK hp b fun en => (match en.ro, en.o, Nat.beq i 0, Nat.beq j 0, Nat.beq ei.sz 1 with
        | false, .var vs, true, true, true => bndK hi n fun h => bndK lo 0 fun a => a ≤ h ∧ h ≤ n ∧ dropK vs off fun r => (match r with
          | .ints k n' xs :: _ => (match Nat.beq n n' with
            | true => newEntK ⟨1, true, some b, .ints k xs⟩ hp fun b' hp' => K (.sl b' a (h - a) (some (n - a))) hp'
            | false => False)
          | _ => False)
        | _, _, _, _, _ => False)
      | none => False)
    | _ => False)
  | _ => False

/-- is a block a row of single cells? -/
def rowOne (hp : Hp) (b off : Nat) : Bool :=
  match hp[b]? with
  | some e => (match e.o with
    | .row _ => Nat.beq e.esz 1 && Nat.beq off 0
    | _ => false)
  | none => false
def evIndexAddr (T : Tab) (hp : Hp) (t : TypeId) (x ix : AV) (K : AV → Prop) : Prop :=
  match ix with
  | .int _ q => (match x with
    | .ptr b i off j => (match td T t with
      | .array n e => (match T e with
        | some ei => (match Nat.beq ei.sz 1, Nat.beq j 0 with | true, true => 0 ≤ q ∧ q < (n : Int) ∧ (match rowOne hp b off with | true => K (.ptr b (i + q.toNat) 0 0) | false => K (.ptr b i off q.toNat)) | _, _ => False)
        | none => False)
      | _ => False)
    | .sl b off len cap => (match td T t with
      | .slice e => (match T e with
        | some ei => entK hp b fun en => (match Nat.beq ei.sz en.esz with | true => 0 ≤ q ∧ q < (len : Int) ∧ K (.ptr b (off + q.toNat) 0 0) | false => False)
        | none => False)
      | _ => False)
    | _ => False)
  | _ => False

def evIndex (T : Tab) (t : TypeId) (x ix : AV) (K : AV → Prop) : Prop :=
  match ix with
  | .int _ q => (match x with
    | .str l => (match td T t with | .str => 0 ≤ q ∧ q < (l.length : Int) ∧ K (.int .u8 ((l.getD q.toNat 0).toNat : Int)) | _ => False)
    | .agg [.ints k n xs] => (match td T t with
      | .array n' e => (match T e with
        | some ei => (match Nat.beq ei.sz 1, ei.d.agg, Nat.beq n n' with | true, false, true => 0 ≤ q ∧ q < (n : Int) ∧ K (.int k (xs.getD q.toNat 0)) | _, _, _ => False)
        | none => False)
      | _ => False)
    | _ => False)
  | _ => False

def evFieldAddr (T : Tab) (s : TypeId) (x : AV) (f : Nat) (K : AV → Prop) : Prop :=
  match x with
  | .ptr b e off j => (match td T s with
    | .struct fs => (match fs[f]?, Nat.beq j 0 with
      | some o, true => (match T o.2 with
        | some fi => (match Nat.ble 1 fi.sz with | true => K (.ptr b e (off + o.1) 0) | false => False)
        | none => False)
      | _, _ => False)
    | _ => False)
  | _ => False

def evField (T : Tab) (s : TypeId) (x : AV) (f : Nat) (K : AV → Prop) : Prop :=
  match x with
  | .agg segs => (match td T s with
    | .struct fs => (match fs[f]? with
      | some o => (match T o.2 with
        | some fi => (match fi.d.agg with
          | true => dropK segs o.1 fun r => takeK r fi.sz fun s => K (.agg s)
          | false => loadSegK segs o.1 0 K)
        | none => False)
      | none => False)
    | _ => False)
  | _ => False

def evBuild (T : Tab) (t : TypeId) (parts : List (Nat × AV)) (K : AV → Prop) : Prop :=
  match T t with
  | some i => (match i.d with
    | .struct fs => partsSK T fs parts i.z fun s => K (.agg s)
    | .array n e => (match T e with
      | some ei => (match ei.d, Nat.beq ei.sz 1, i.z with
        | .int k, true, [.ints k' m zs] => (match decide (k = k'), Nat.beq m n with | true, true => partsIK k parts zs fun xs => K (.agg [.ints k n xs]) | _, _ => False)
        | _, _, _ => False)
      | none => False)
    | _ => False)
  | none => False

def evBuildSlice (T : Tab) (hp : Hp) (t : TypeId) (len : Nat) (parts : List (Nat × AV)) (K : Kont) : Prop :=
  match td T t with
  | .slice e => (match T e with
    | some ei => (match ei.d with
      | .int k => (match Nat.beq ei.sz 1, Nat.ble len 65536, ei.z with
        | true, true, [.int k' z0] => (match decide (k = k') with
          | true => repK z0 len fun z => partsIK k parts z fun xs => newEntK ⟨1, false, none, .ints k xs⟩ hp fun b hp' => K (.sl b 0 len (some len)) hp'
          | false => False)
        | _, _, _ => False)
      | _ => (match Nat.ble (len * ei.sz) 65536, Nat.ble 1 ei.sz with
        | true, true => repK ei.z len fun z => partsRK ei.sz parts z fun els => newEntK ⟨ei.sz, false, none, .row els⟩ hp fun b hp' => K (.sl b 0 len (some len)) hp'
        | _, _ => False))
    | none => False)
  | _ => False

def evMakeSlice (T : Tab) (hp : Hp) (t : TypeId) (l c : AV) (K : Kont) : Prop :=
  match l, c with
  | .int _ l, .int _ c => (match td T t with
    | .slice e => (match T e with
      | some ei => (match ei.d with
        | .int k => (match Nat.beq ei.sz 1, Nat.ble ei.bys 8, ei.z with
          | true, true, [.int k' z0] => (match decide (k = k') with
            | true => 0 ≤ l ∧ l ≤ c ∧ c ≤ (roomMost : Int) ∧ newEntK ⟨1, false, none, .ints k (List.replicate c.toNat z0)⟩ hp fun b hp' => K (.sl b 0 l.toNat (some c.toNat)) hp'
            | false => False)
          | _, _, _ => False)
        | _ => (match Nat.ble 1 ei.sz, Nat.ble ei.bys 8192 with
          | true, true => 0 ≤ l ∧ l ≤ c ∧ c ≤ (roomMost : Int) ∧ newEntK ⟨ei.sz, false, none, .row (List.replicate c.toNat ei.z)⟩ hp fun b hp' => K (.sl b 0 l.toNat (some c.toNat)) hp'
          | _, _ => False))
      | none => False)
    | _ => False)
  | _, _ => False

/-! ### maps: their keys are rows of numbers -/
def findM (key : List Int) : List (Nat × List Int × AV) → Option (Nat × List Int × AV)
  | [] => none
  | e :: r => match key == e.2.1 with | true => some e | false => findM key r
def putM (key : List Int) (v : AV) (clock : Nat) : List (Nat × List Int × AV) → List (Nat × List Int × AV)
  | [] => [(clock, key, v)]
  | e :: r => match key == e.2.1 with | true => (e.1, e.2.1, v) :: r | false => e :: putM key v clock r
def clockM (key : List Int) (es : List (Nat × List Int × AV)) (clock : Nat) : Nat := match findM key es with | some _ => clock | none => clock + 1
def delM (key : List Int) : List (Nat × List Int × AV) → List (Nat × List Int × AV)
  | [] => []
  | e :: r => match key == e.2.1 with | true => r | false => e :: delM key r
def bornM (b : Nat) (v : AV) : List (Nat × List Int × AV) → List (Nat × List Int × AV)
  | [] => []
  | e :: r => match Nat.beq e.1 b with | true => (e.1, e.2.1, v) :: r | false => e :: bornM b v r
def findB (b : Nat) : List (Nat × List Int × AV) → Option (Nat × List Int × AV)
  | [] => none
  | e :: r => match Nat.beq e.1 b with | true => some e | false => findB b r
def zeroAV (i : TI) : Option AV := match i.d.agg with
  | true => some (.agg i.z)
  | false => match i.z with | [z] => (match z.isCell with | true => some z | false => none) | _ => none
def keyK (T : Tab) (kt : TypeId) (x : AV) (K : IntKind → Nat → List Int → Prop) : Prop :=
  match x with
  | .agg [.ints k n xs] => (match fitsAll T kt [.ints k n xs], td T kt with | true, .array _ _ => K k n xs | _, _ => False)
  | _ => False
def lookK (r : Option (Nat × List Int × AV)) (z : Option AV) (ok : Bool) (K : AV → Prop) : Prop :=
  match r with
  | some e => (match ok with | true => K (.tup [e.2.2, .bool true]) | false => K e.2.2)
  | none => (match z with | some z => (match ok with | true => K (.tup [z, .bool false]) | false => K z) | none => False)
def evLookup (T : Tab) (hp : Hp) (t : TypeId) (m key : AV) (ok : Bool) (K : AV → Prop) : Prop :=
  match m with
  | .mp b => (match td T t with
    | .map kt et => (match T et with
      | some ei => keyK T kt key fun k n xs => entK hp b fun en => (match en.o with
        | .map k' n' es _ => (match decide (k = k'), Nat.beq n n' with | true, true => lookK (findM xs es) (zeroAV ei) ok K | _, _ => False)
        | _ => False)
      | none => False)
    | _ => False)
  | _ => False
def evMapUpdate (T : Tab) (hp : Hp) (t : TypeId) (m key v : AV) (K : Hp → Prop) : Prop :=
  match m with
  | .mp b => (match td T t with
    | .map kt _ => keyK T kt key fun k n xs => entK hp b fun en => (match en.ro, en.o with
      | false, .map k' n' es clock => (match decide (k = k'), Nat.beq n n' with | true, true => setObjK hp b en (.map k' n' (putM xs v clock es) (clockM xs es clock)) K | _, _ => False)
      | _, _ => False)
    | _ => False)
  | _ => False
def evMapEntry (T : Tab) (hp : Hp) (t : TypeId) (m key : AV) (K : Kont) : Prop :=
  match m with
  | .mp b => (match td T t with
    | .map kt et => (match T et with
      | some ei => keyK T kt key fun k n xs => entK hp b fun en => (match en.ro, en.o with
        | false, .map k' n' es clock => (match decide (k = k'), Nat.beq n n' with
          | true, true => (match findM xs es with
            | some e => setObjK hp b en (.map k' n' es clock) fun hp' => K (.tup [e.2.2, .int .i64 (e.1 : Int)]) hp'
            | none => (match zeroAV ei with
              | some z => setObjK hp b en (.map k' n' (es ++ [(clock, xs, z)]) (clock + 1)) fun hp' => K (.tup [z, .int .i64 (clock : Int)]) hp'
              | none => False))
          | _, _ => False)
        | _, _ => False)
      | none => False)
    | _ => False)
  | _ => False
def evEntryStore (hp : Hp) (m s v : AV) (K : Hp → Prop) : Prop :=
  match m with
  | .mp b => (match s with
    | .int _ s => entK hp b fun en => (match en.ro, en.o with
      | false, .map k' n' es clock => (0 ≤ s ∧ (findB s.toNat es).isSome = true) ∧ setObjK hp b en (.map k' n' (bornM s.toNat v es) clock) K
      | _, _ => False)
    | _ => False)
  | _ => False
def evRange (T : Tab) (hp : Hp) (t : TypeId) (m : AV) (K : Kont) : Prop :=
  match m with
  | .mp b => (match td T t with
    | .map _ _ => entK hp b fun en => (match en.ro, en.o with
      | false, .map _ _ _ clock => newEntK ⟨0, false, none, .iter b clock [] clock⟩ hp fun b' hp' => K (.ptr b' 0 0 0) hp'
      | _, _ => False)
    | _ => False)
  | _ => False
/-- a step of a walk over a map that lies still: whatever entry was not seen; the end, when all were -/
def evNext (hp : Hp) (it : AV) (K : Kont) : Prop :=
  match it with
  | .ptr b 0 0 0 => entK hp b fun en => (match en.ro, en.o with
    | false, .iter m since seen last => entK hp m fun em => (match em.ro, em.o with
      | false, .map k n es clock => ((since = clock ∧ last = clock) ∧ ∀ e ∈ es, e.1 < clock) ∧
          (∀ e, e ∈ es → ¬ e.1 ∈ seen → setObjK hp b en (.iter m since (e.1 :: seen) clock) fun hp' => K (.tup [.bool true, .agg [.ints k n e.2.1], e.2.2]) hp') ∧
          ((∀ e ∈ es, e.1 ∈ seen) → K (.tup [.bool false]) hp)
      | _, _ => False)
    | _, _ => False)
  | _ => False
def evEntry (hp : Hp) (it : AV) (K : AV → Prop) : Prop :=
  match it with
  | .ptr b 0 0 0 => entK hp b fun en => (match en.ro, en.o with
    | false, .iter m _ (s :: _) last => entK hp m fun em => (match em.ro, em.o with
      | false, .map k n es clock => clock = last ∧ (match findB s es with
        | some e => K (.tup [.agg [.ints k n e.2.1], e.2.2])
        | none => False)
      | _, _ => False)
    | _, _ => False)
  | _ => False
/-- a full slice expression -/
def evSlice3 (T : Tab) (hp : Hp) (t : TypeId) (x : AV) (lo hi : Option AV) (mx : AV) (K : Kont) : Prop :=
  match x with
  | .sl b off len (some c) => (match td T t with
    | .slice e => (match T e with
      | some ei => entK hp b fun en => (match Nat.beq ei.sz en.esz with
        | true => bndK (some mx) 0 fun m => (match hi with
          | some hi => bndK (some hi) 0 fun h => bndK lo 0 fun a => (a ≤ h ∧ h ≤ m ∧ m ≤ c) ∧ K (.sl b (off + a) (h - a) (some (m - a))) hp
          | none => False)
        | false => False)
      | none => False)
    | _ => False)
  | _ => False
/-- an append that stays where it is: its own rest, moved down -/
def evAppIn (T : Tab) (hp : Hp) (ts : List TypeId) (b off len c off2 len2 : Nat) (K : Kont) : Prop :=
  match ts with
  | [t, t2] => (match td T t2, td T t with
    | .slice _, .slice e => (match T e with
      | some ei => (match ei.d.isInt, Nat.ble 1 ei.sz, Nat.ble ei.bys 8192 with
        | false, true, true => entK hp b fun en => (match en.ro, Nat.beq en.esz ei.sz, en.o with
          | false, true, .row els => (off + len + len2 ≤ els.length ∧ off2 + len2 ≤ els.length ∧ len + len2 ≤ c ∧ len + len2 ≤ roomMost) ∧
              setObjK hp b en (.row (els.take (off + len) ++ (els.drop off2).take len2 ++ els.drop (off + len + len2))) fun hp' => K (.sl b off (len + len2) (some c)) hp'
          | _, _, _ => False)
        | _, _, _ => False)
      | none => False)
    | _, _ => False)
  | _ => False
def evDelete (T : Tab) (hp : Hp) (ts : List TypeId) (m key : AV) (K : Kont) : Prop :=
  match ts with
  | t :: _ => (match m with
    | .mp b => (match td T t with
      | .map kt _ => keyK T kt key fun k n xs => entK hp b fun en => (match en.ro, en.o with
        | false, .map k' n' es clock => (match decide (k = k'), Nat.beq n n' with | true, true => setObjK hp b en (.map k' n' (delM xs es) clock) fun hp' => K (.tup []) hp' | _, _ => False)
        | _, _ => False)
      | _ => False)
    | _ => False)
  | _ => False
def evClear (T : Tab) (hp : Hp) (ts : List TypeId) (x : AV) (K : Kont) : Prop :=
  match ts with
  | t :: _ => (match x with
    | .sl b off len _ => (match td T t with
      | .slice e => (match T e with
        | some ei => entK hp b fun en => (match en.ro, Nat.beq en.esz ei.sz, en.o with
          | false, true, .row els => off + len ≤ els.length ∧ setObjK hp b en (.row (els.take off ++ List.replicate len ei.z ++ els.drop (off + len))) fun hp' => K (.tup []) hp'
          | _, _, _ => False)
        | none => False)
      | _ => False)
    | _ => False)
  | _ => False
def evMapLen (T : Tab) (hp : Hp) (ts : List TypeId) (b : Nat) (K : Kont) : Prop :=
  match ts with
  | t :: _ => (match td T t with
    | .map _ _ => entK hp b fun en => (match en.o with | .map _ _ es _ => K (.int .i64 (es.length : Int)) hp | _ => False)
    | _ => False)
  | _ => False
def evBuilt (T : Tab) (hp : Hp) (b : Builtin) (ts : List TypeId) (args : List AV) (K : Kont) : Prop :=
  match b with
  | .append => (match args with
    | [.sl b1 o1 l1 c1, .sl b2 o2 l2 _] => (match Nat.beq b1 b2 with
      | true => (match c1 with | some c => evAppIn T hp ts b1 o1 l1 c o2 l2 K | none => evBuiltin T hp b ts args K)
      | false => evBuiltin T hp b ts args K)
    | _ => evBuiltin T hp b ts args K)
  | .len => (match args with
    | [.mp m] => evMapLen T hp ts m K
    | _ => evBuiltin T hp b ts args K)
  | .delete => (match args with
    | [m, key] => evDelete T hp ts m key K
    | _ => False)
  | .clear => (match args with
    | [x] => evClear T hp ts x K
    | _ => False)
  | _ => evBuiltin T hp b ts args K

def evOp (T : Tab) (fr : Fr) (hp : Hp) (op : Op) (K : Kont) : Prop :=
  match op with
  | .move x => avK fr x fun v => K v hp
  | .assign x => avK fr x fun v => K v hp
  | .pick c a b => avK fr c fun g => (match g with
    | .bool g => (match g with | true => avK fr a fun v => K v hp | false => avK fr b fun v => K v hp)
    | _ => False)
  | .alloc t => (match T t with
    | some i => newEntK ⟨i.sz, false, none, .var i.z⟩ hp fun b hp' => K (.ptr b 0 0 0) hp'
    | none => False)
  | .box t x => (match T t with
    | some i => avK fr x fun v => (match Nat.beq (asz v.segs) i.sz, v.isCell || v.isAgg with
      | true, true => newEntK ⟨i.sz, false, none, .var v.segs⟩ hp fun b hp' => K (.ptr b 0 0 0) hp'
      | _, _ => False)
    | none => False)
  | .build t parts => avpK fr parts.toList fun ps => evBuild T t ps fun v => K v hp
  | .buildSlice t len parts => avpK fr parts.toList fun ps => evBuildSlice T hp t len ps K
  | .makeSlice t l c => avK fr l fun l => avK fr c fun c => evMakeSlice T hp t l c K
  | .load t a => avK fr a fun a => evLoad T hp t a fun v => K v hp
  | .store t a v => avK fr a fun a => avK fr v fun v => evStore T hp t a v fun hp' => K .top hp'
  | .nilCheck x => avK fr x fun x => (match x with
    | .ptr b i off j => K (.ptr b i off j) hp
    | .fn f caps => K (.fn f caps) hp
    | _ => False)
  | .binOp o t x y _ => avK fr x fun x => avK fr y fun y => evBin T o t x y fun v => K v hp
  | .unOp o _ x => avK fr x fun x => evUn o x fun v => K v hp
  | .convert s d x => avK fr x fun x => evConv T hp s d x K
  | .makeFunc f first caps => (match f, first.toList with
    | .func f, [] => avsK fr caps.toList fun cs => K (.fn f cs) hp
    | _, _ => False)
  | .slice t x lo hi mx => (match mx with
    | none => avK fr x fun x => avoK fr lo fun lo => avoK fr hi fun hi => evSlice T hp t x lo hi K
    | some mx => avK fr x fun x => avoK fr lo fun lo => avoK fr hi fun hi => avK fr mx fun mx => evSlice3 T hp t x lo hi mx K)
  | .fieldAddr s x f => avK fr x fun x => evFieldAddr T s x f fun v => K v hp
  | .field s x f => avK fr x fun x => evField T s x f fun v => K v hp
  | .indexAddr t x ix => avK fr x fun x => avK fr ix fun ix => evIndexAddr T hp t x ix fun v => K v hp
  | .index t x ix => avK fr x fun x => avK fr ix fun ix => evIndex T t x ix fun v => K v hp
  | .extract x i => avK fr x fun x => (match x with
    | .tup vs => (match vs[i]? with
      | some v => K v hp
      | none => False)
    | _ => False)
  | .call c => (match c.callee with
    | .builtin b => avsK fr c.args.toList fun as => evBuilt T hp b c.argTypes.toList as K
    | _ => False)
  | .makeMap t r => (match r with
    | none => (match td T t with
      | .map kt _ => (match td T kt with
        | .array n e => (match td T e with
          | .int k => newEntK ⟨0, false, none, .map k n [] 0⟩ hp fun b hp' => K (.mp b) hp'
          | _ => False)
        | _ => False)
      | _ => False)
    | some _ => False)
  | .lookup t m k ok => avK fr m fun m => avK fr k fun k => evLookup T hp t m k ok fun v => K v hp
  | .mapUpdate t m k v => avK fr m fun m => avK fr k fun k => avK fr v fun v => evMapUpdate T hp t m k v fun hp' => K .top hp'
  | .mapEntry t m k => avK fr m fun m => avK fr k fun k => evMapEntry T hp t m k K
  | .entryStore _ m s v => avK fr m fun m => avK fr s fun s => avK fr v fun v => evEntryStore hp m s v fun hp' => K .top hp'
  | .range t m => avK fr m fun m => evRange T hp t m K
  | .next it isS => (match isS with
    | false => avK fr it fun it => evNext hp it K
    | true => False)
  | .entry it => avK fr it fun it => evEntry hp it fun v => K v hp
  | _ => False

abbrev CallsP := FuncId → List AV → Hp → (AV → Hp → Prop) → Prop
abbrev KN := Fr → Hp → Prop
/-- where code can go: on; out of a block; to a label; home -/
abbrev CodeP := Code → KN → List (Nat × KN) → (Nat → KN) → KN → Fr → Hp → Prop

/-- one operation, calls among them: 'A' says what calls do -/
def evOper (A : CallsP) (T : Tab) (fr : Fr) (hp : Hp) (op : Op) (K : Kont) : Prop :=
  match op with
  | .call c => (match c.callee with
    | .value f => avK fr f fun f => (match f with
      | .fn g caps => avsK fr c.args.toList fun as => appK as caps fun as => A g as hp K
      | _ => False)
    | _ => evOp T fr hp (.call c) K)
  | op => evOp T fr hp op K

def dstK (dst : Option Nat) (v : AV) (N : Nat) (fr : Fr) (K : Fr → Prop) : Prop :=
  match dst with
  | none => K fr
  | some d => match Nat.blt d N with | true => putK d v fr K | false => False

/-- one operation of a region, and what comes behind it ('K', told once) -/
def evStep (A : CallsP) (T : Tab) (N : Nat) (all : Array Oper) (o : Oper) (fr : Fr) (hp : Hp) (K : Fr → Hp → Prop) : Prop :=
  match o.guard with
  | none => evOper A T fr hp o.op fun v hp' => dstK o.dst v N fr fun fr' => K fr' hp'
  | some (j, want) => (match (all[j]?).bind (·.dst) with
    | some d => getK d fr fun g => (match g with
      | .bool g => (match g == want with
        | true => evOper A T fr hp o.op fun v hp' => dstK o.dst v N fr fun fr' => K fr' hp'
        | false => dstK o.dst (.tup []) N fr fun fr' => K fr' hp)
      | .tup [] => dstK o.dst (.tup []) N fr fun fr' => K fr' hp
      | _ => False)
    | none => False)
def evOps (A : CallsP) (T : Tab) (N : Nat) (all : Array Oper) : List Oper → Fr → Hp → (Fr → Hp → Prop) → Prop
  | [], fr, hp, K => K fr hp
  | o :: rest, fr, hp, K => evStep A T N all o fr hp fun fr' hp' => evOps A T N all rest fr' hp' K

def exitK : List (Nat × KN) → Nat → KN
  | [], _, _, _ => False
  | (i, K) :: r, id, fr, hp => match Nat.beq i id with | true => K fr hp | false => exitK r id fr hp

/-- the evaluator: it stands still at loops, scopes and regions that draw their order ('W') -/
def ev (A : CallsP) (W : CodeP) (T : Tab) (N : Nat) (keep : Nat → Bool) : Code → KN → List (Nat × KN) → (Nat → KN) → KN → Fr → Hp → Prop
  | .skip, Kn, E, G, R, fr, hp => Kn fr hp
  | .label _, Kn, E, G, R, fr, hp => Kn fr hp
  | .seq a b, Kn, E, G, R, fr, hp => ev A W T N keep a (fun fr' hp' => ev A W T N keep b Kn E G R fr' hp') E G R fr hp
  | .cond c a b, Kn, E, G, R, fr, hp => avK fr c fun g => (match g with
    | .bool g => (match g with | true => ev A W T N keep a Kn E G R fr hp | false => ev A W T N keep b Kn E G R fr hp)
    | _ => False)
  | .block id c, Kn, E, G, R, fr, hp => ev A W T N keep c Kn ((id, Kn) :: E) G R fr hp
  | .exit id, Kn, E, G, R, fr, hp => exitK E id fr hp
  | .goto l, Kn, E, G, R, fr, hp => G l fr hp
  | .ret, Kn, E, G, R, fr, hp => R fr hp
  | .region id ops draw, Kn, E, G, R, fr, hp => (match draw with
    | false => evOps A T N ops ops.toList fr hp fun fr' hp' => keepK keep fr' fun fr'' => Kn fr'' hp'
    | true => W (.region id ops true) Kn E G R fr hp)
  | .loop c, Kn, E, G, R, fr, hp => W (.loop c) Kn E G R fr hp
  | .scope c, Kn, E, G, R, fr, hp => W (.scope c) Kn E G R fr hp
  | .rangeFunc f ps a b, Kn, E, G, R, fr, hp => W (.rangeFunc f ps a b) Kn E G R fr hp
  | .refuse _, _, _, _, _, _, _ => False

end Go.Aw
end

section
/-
  AwC: what the pieces of the evaluator say of a memory: slots, blocks, lists of cells. Own work of this session.
-/
set_option linter.unusedVariables false
set_option linter.unusedSimpArgs false
namespace Go.Aw

/-! ### values keep their meaning while blocks are added -/
section mono
variable {ρ ρ' : Nat → Loc} {n n' : Nat}
mutual
theorem VR_mono (hn : n ≤ n') (h : ∀ b, b < n → ρ' b = ρ b) : ∀ (v : AV) (c : Value), VR ρ n v c → VR ρ' n' v c
  | .int _ _, c, hv => by simpa only [VR] using hv
  | .bool _, c, hv => by simpa only [VR] using hv
  | .str _, c, hv => by simpa only [VR] using hv
  | .con _, c, hv => by simpa only [VR] using hv
  | .ptr b i off j, c, hv => by
    simp only [VR] at hv ⊢
    rw [h b hv.1]; exact ⟨by omega, hv.2⟩
  | .sl b off len cap, c, hv => by
    simp only [VR] at hv ⊢
    rw [h b hv.1]; exact ⟨by omega, hv.2⟩
  | .mp b, c, hv => by
    simp only [VR] at hv ⊢
    rw [h b hv.1]; exact ⟨by omega, hv.2⟩
  | .ints _ _ _, c, hv => by simp only [VR] at hv
  | .agg vs, c, hv => by
    simp only [VR] at hv ⊢
    obtain ⟨cs, h1, h2, h3⟩ := hv
    exact ⟨cs, h1, CAt_mono hn h vs _ _ h2, h3⟩
  | .tup vs, c, hv => by
    simp only [VR] at hv ⊢
    obtain ⟨cs, h1, h2⟩ := hv
    exact ⟨cs, h1, VRs_mono hn h vs cs h2⟩
  | .fn f vs, c, hv => by
    simp only [VR] at hv ⊢
    obtain ⟨cs, h1, h2⟩ := hv
    exact ⟨cs, h1, VRs_mono hn h vs cs h2⟩
  | .top, c, hv => by simp only [VR]
theorem VRs_mono (hn : n ≤ n') (h : ∀ b, b < n → ρ' b = ρ b) : ∀ (vs : List AV) (cs : List Value), VRs ρ n vs cs → VRs ρ' n' vs cs
  | [], cs, hv => by simpa only [VRs] using hv
  | v :: vs, cs, hv => by
    simp only [VRs] at hv ⊢
    obtain ⟨c, cr, h1, h2, h3⟩ := hv
    exact ⟨c, cr, h1, VR_mono hn h v c h2, VRs_mono hn h vs cr h3⟩
theorem CAt_mono (hn : n ≤ n') (h : ∀ b, b < n → ρ' b = ρ b) : ∀ (vs : List AV) (f : Nat → Option Value) (off : Nat), CAt ρ n f vs off → CAt ρ' n' f vs off
  | [], f, off, hv => by simp only [CAt]
  | .ints k m xs :: vs, f, off, hv => by
    simp only [CAt] at hv ⊢
    exact ⟨hv.1, CAt_mono hn h vs f _ hv.2⟩
  | .int _ _ :: vs, f, off, hv => by
    simp only [CAt] at hv ⊢
    obtain ⟨⟨c, h1, h2, h3⟩, h4⟩ := hv
    exact ⟨⟨c, h1, h2, VR_mono hn h _ c h3⟩, CAt_mono hn h vs f _ h4⟩
  | .bool _ :: vs, f, off, hv => by
    simp only [CAt] at hv ⊢
    obtain ⟨⟨c, h1, h2, h3⟩, h4⟩ := hv
    exact ⟨⟨c, h1, h2, VR_mono hn h _ c h3⟩, CAt_mono hn h vs f _ h4⟩
  | .str _ :: vs, f, off, hv => by
    simp only [CAt] at hv ⊢
    obtain ⟨⟨c, h1, h2, h3⟩, h4⟩ := hv
    exact ⟨⟨c, h1, h2, VR_mono hn h _ c h3⟩, CAt_mono hn h vs f _ h4⟩
  | .con _ :: vs, f, off, hv => by
    simp only [CAt] at hv ⊢
    obtain ⟨⟨c, h1, h2, h3⟩, h4⟩ := hv
    exact ⟨⟨c, h1, h2, VR_mono hn h _ c h3⟩, CAt_mono hn h vs f _ h4⟩
  | .ptr _ _ _ _ :: vs, f, off, hv => by
    simp only [CAt] at hv ⊢
    obtain ⟨⟨c, h1, h2, h3⟩, h4⟩ := hv
    exact ⟨⟨c, h1, h2, VR_mono hn h _ c h3⟩, CAt_mono hn h vs f _ h4⟩
  | .sl _ _ _ _ :: vs, f, off, hv => by
    simp only [CAt] at hv ⊢
    obtain ⟨⟨c, h1, h2, h3⟩, h4⟩ := hv
    exact ⟨⟨c, h1, h2, VR_mono hn h _ c h3⟩, CAt_mono hn h vs f _ h4⟩
  | .mp _ :: vs, f, off, hv => by
    simp only [CAt] at hv ⊢
    obtain ⟨⟨c, h1, h2, h3⟩, h4⟩ := hv
    exact ⟨⟨c, h1, h2, VR_mono hn h _ c h3⟩, CAt_mono hn h vs f _ h4⟩
  | .agg _ :: vs, f, off, hv => by
    simp only [CAt] at hv ⊢
    obtain ⟨⟨c, h1, h2, h3⟩, h4⟩ := hv
    exact ⟨⟨c, h1, h2, VR_mono hn h _ c h3⟩, CAt_mono hn h vs f _ h4⟩
  | .tup _ :: vs, f, off, hv => by
    simp only [CAt] at hv ⊢
    obtain ⟨⟨c, h1, h2, h3⟩, h4⟩ := hv
    exact ⟨⟨c, h1, h2, VR_mono hn h _ c h3⟩, CAt_mono hn h vs f _ h4⟩
  | .fn _ _ :: vs, f, off, hv => by
    simp only [CAt] at hv ⊢
    obtain ⟨⟨c, h1, h2, h3⟩, h4⟩ := hv
    exact ⟨⟨c, h1, h2, VR_mono hn h _ c h3⟩, CAt_mono hn h vs f _ h4⟩
  | .top :: vs, f, off, hv => by
    simp only [CAt] at hv ⊢
    obtain ⟨⟨c, h1, h2, h3⟩, h4⟩ := hv
    exact ⟨⟨c, h1, h2, VR_mono hn h _ c h3⟩, CAt_mono hn h vs f _ h4⟩
end
end mono

section
variable {ρ : Nat → Loc} {n : Nat}

theorem VRs_length : ∀ {vs : List AV} {cs : List Value}, VRs ρ n vs cs → vs.length = cs.length
  | [], cs, h => by simp only [VRs] at h; simp [h]
  | v :: vs, cs, h => by
    simp only [VRs] at h
    obtain ⟨c, cr, rfl, _, h3⟩ := h
    simp [VRs_length h3]

theorem VRs_append : ∀ {vs us : List AV} {cs ds : List Value}, VRs ρ n vs cs → VRs ρ n us ds → VRs ρ n (vs ++ us) (cs ++ ds)
  | [], us, cs, ds, h, h' => by simp only [VRs] at h; subst h; simpa using h'
  | v :: vs, us, cs, ds, h, h' => by
    simp only [VRs] at h
    obtain ⟨c, cr, rfl, h2, h3⟩ := h
    simp only [List.cons_append, VRs]
    exact ⟨c, cr ++ ds, rfl, h2, VRs_append h3 h'⟩

theorem VRs_get : ∀ {vs : List AV} {cs : List Value} {i : Nat} {v : AV}, VRs ρ n vs cs → vs[i]? = some v → ∃ c, cs[i]? = some c ∧ VR ρ n v c
  | [], cs, i, v, h, hi => by simp at hi
  | u :: vs, cs, 0, v, h, hi => by
    simp only [VRs] at h
    obtain ⟨c, cr, rfl, h2, h3⟩ := h
    simp at hi; subst hi
    exact ⟨c, by simp, h2⟩
  | u :: vs, cs, i + 1, v, h, hi => by
    simp only [VRs] at h
    obtain ⟨c, cr, rfl, h2, h3⟩ := h
    simpa using VRs_get h3 (by simpa using hi)

/-- a list's head that is no row of whole numbers is one cell -/
theorem CAt_cons {f : Nat → Option Value} {v : AV} {vs : List AV} {off : Nat} (hv : ∀ k m xs, v ≠ .ints k m xs) :
    CAt ρ n f (v :: vs) off ↔ ((∃ c, f off = some c ∧ c.oneCell' = true ∧ VR ρ n v c) ∧ CAt ρ n f vs (off + 1)) := by
  cases v <;> first | (exact absurd rfl (hv _ _ _)) | simp only [CAt]

theorem AV.sz_one {v : AV} (hv : ∀ k m xs, v ≠ .ints k m xs) : v.sz = 1 := by
  cases v <;> first | rfl | (exact absurd rfl (hv _ _ _))

theorem asz_append : ∀ (a b : List AV), asz (a ++ b) = asz a + asz b
  | [], b => by simp [asz]
  | v :: a, b => by simp [asz, asz_append a b, Nat.add_assoc]

theorem CAt_append (f : Nat → Option Value) : ∀ (a b : List AV) (off : Nat), CAt ρ n f (a ++ b) off ↔ (CAt ρ n f a off ∧ CAt ρ n f b (off + asz a))
  | [], b, off => by simp [CAt, asz]
  | v :: a, b, off => by
    by_cases hv : ∃ k m xs, v = .ints k m xs
    · obtain ⟨k, m, xs, rfl⟩ := hv
      simp only [List.cons_append, CAt, CAt_append f a b, asz, AV.sz, and_assoc, Nat.add_assoc]
    · have hv' : ∀ k m xs, v ≠ .ints k m xs := fun k m xs e => hv ⟨k, m, xs, e⟩
      rw [List.cons_append, CAt_cons hv', CAt_cons hv', CAt_append f a b]
      simp only [asz, AV.sz_one hv', and_assoc, Nat.add_assoc]

/-- only the cells in question matter -/
theorem CAt_congr {f g : Nat → Option Value} : ∀ (vs : List AV) (off : Nat), (∀ j, off ≤ j → j < off + asz vs → g j = f j) → CAt ρ n f vs off → CAt ρ n g vs off
  | [], off, h, hv => by simp only [CAt]
  | v :: vs, off, h, hv => by
    by_cases hi : ∃ k m xs, v = .ints k m xs
    · obtain ⟨k, m, xs, rfl⟩ := hi
      simp only [CAt, asz, AV.sz] at hv h ⊢
      refine ⟨⟨hv.1.1, fun j hj => ?_⟩, CAt_congr vs _ (fun j h1 h2 => h j (by omega) (by omega)) hv.2⟩
      rw [h _ (by omega) (by omega)]; exact hv.1.2 j hj
    · have hv' : ∀ k m xs, v ≠ .ints k m xs := fun k m xs e => hi ⟨k, m, xs, e⟩
      rw [CAt_cons hv'] at hv ⊢
      simp only [asz, AV.sz_one hv'] at h
      obtain ⟨⟨c, h1, h2⟩, h3⟩ := hv
      exact ⟨⟨c, by rw [h _ (by omega) (by omega)]; exact h1, h2⟩, CAt_congr vs _ (fun j g1 g2 => h j (by omega) (by omega)) h3⟩

/-- the same cells, counted from elsewhere -/
theorem CAt_shift {f g : Nat → Option Value} (d : Nat) : ∀ (vs : List AV) (off : Nat), (∀ j, j < asz vs → g (off + j) = f (off + d + j)) → CAt ρ n f vs (off + d) → CAt ρ n g vs off
  | [], off, h, hv => by simp only [CAt]
  | v :: vs, off, h, hv => by
    by_cases hi : ∃ k m xs, v = .ints k m xs
    · obtain ⟨k, m, xs, rfl⟩ := hi
      simp only [CAt, asz, AV.sz] at hv h ⊢
      refine ⟨⟨hv.1.1, fun j hj => ?_⟩, ?_⟩
      · rw [h _ (by omega)]; exact hv.1.2 j hj
      · refine CAt_shift d vs (off + m) (fun j hj => ?_) (by rw [show off + m + d = off + d + m by omega]; exact hv.2)
        rw [show off + m + j = off + (m + j) by omega, h _ (by omega)]; congr 1; omega
    · have hv' : ∀ k m xs, v ≠ .ints k m xs := fun k m xs e => hi ⟨k, m, xs, e⟩
      rw [CAt_cons hv'] at hv ⊢
      simp only [asz, AV.sz_one hv'] at h
      obtain ⟨⟨c, h1, h2⟩, h3⟩ := hv
      refine ⟨⟨c, by have := h 0 (by omega); simp only [Nat.add_zero] at this; rw [this]; exact h1, h2⟩, ?_⟩
      refine CAt_shift d vs (off + 1) (fun j hj => ?_) (by rw [show off + 1 + d = off + d + 1 by omega]; exact h3)
      rw [show off + 1 + j = off + (1 + j) by omega, h _ (by omega)]; congr 1; omega

/-- each cell of the list is there, and one cell -/
theorem CAt_cell {f : Nat → Option Value} : ∀ (vs : List AV) (off j : Nat), CAt ρ n f vs off → off ≤ j → j < off + asz vs → ∃ c, f j = some c ∧ c.oneCell' = true
  | [], off, j, hv, h1, h2 => by simp [asz] at h2; omega
  | v :: vs, off, j, hv, h1, h2 => by
    by_cases hi : ∃ k m xs, v = .ints k m xs
    · obtain ⟨k, m, xs, rfl⟩ := hi
      simp only [CAt, asz, AV.sz] at hv h2
      by_cases hj : j < off + m
      · refine ⟨.int k (xs.getD (j - off) 0), ?_, ?_⟩
        · have := hv.1.2 (j - off) (by omega)
          rwa [show off + (j - off) = j by omega] at this
        · rfl
      · exact CAt_cell vs (off + m) j hv.2 (by omega) (by omega)
    · have hv' : ∀ k m xs, v ≠ .ints k m xs := fun k m xs e => hi ⟨k, m, xs, e⟩
      rw [CAt_cons hv'] at hv
      simp only [asz, AV.sz_one hv'] at h2
      obtain ⟨⟨c, g1, g2, _⟩, h3⟩ := hv
      by_cases hj : j = off
      · subst hj; exact ⟨c, g1, g2⟩
      · exact CAt_cell vs (off + 1) j h3 (by omega) (by omega)

theorem isCell_not_ints {v : AV} (h : v.isCell = true) : ∀ k m xs, v ≠ .ints k m xs := by
  intro k m xs e; subst e; simp [AV.isCell] at h

theorem VR_isCell {v : AV} {c : Value} (hv : v.isCell = true) (h : VR ρ n v c) : c.oneCell' = true := by
  cases v <;> simp only [AV.isCell, Bool.false_eq_true] at hv <;> simp only [VR] at h
  · subst h; rfl
  · subst h; rfl
  · subst h; rfl
  · rw [h.1]; exact h.2
  · rw [h.2]; rfl
  · obtain ⟨_, ad, c, rfl, _⟩ := h; rfl
  · rw [h.2]; rfl
  · obtain ⟨cs, rfl, _⟩ := h; rfl

/-! ### slots -/
theorem FSat_mono {ρ' : Nat → Loc} {n' : Nat} {fr : Fr} {tmps : Array Value} (hn : n ≤ n') (h : ∀ b, b < n → ρ' b = ρ b) (hf : FSat ρ n fr tmps) : FSat ρ' n' fr tmps :=
  fun t v ht => VR_mono hn h v _ (hf t v ht)

theorem getK_eq {t : Nat} {K : AV → Prop} : ∀ {fr : Fr}, getK t fr K = K ((Fr.find fr t).getD .top)
  | [] => rfl
  | (u, v) :: r => by
    simp only [getK, Fr.find]
    cases Nat.beq u t with
    | true => rfl
    | false => exact getK_eq (fr := r)

theorem getK_sound {tmps : Array Value} {t : Nat} {K : AV → Prop} {fr : Fr} (hf : FSat ρ n fr tmps) (h : getK t fr K) : ∃ v, K v ∧ VR ρ n v (tmps.getD t undef) := by
  rw [getK_eq] at h
  refine ⟨_, h, ?_⟩
  cases e : Fr.find fr t with
  | none => simp only [Option.getD_none, VR]
  | some v => exact hf t v e

theorem putK_find {t : Nat} {v : AV} : ∀ {fr : Fr} {K : Fr → Prop}, putK t v fr K → ∃ fr', K fr' ∧ ∀ t', Fr.find fr' t' = if t' = t then some v else Fr.find fr t'
  | [], K, h => ⟨_, h, fun t' => by
      by_cases e : t' = t
      · subst e; simp [Fr.find]
      · have : Nat.beq t t' = false := by
          cases hb : Nat.beq t t' with
          | true => exact absurd (Nat.eq_of_beq_eq_true hb).symm e
          | false => rfl
        simp [Fr.find, e, this]⟩
  | (u, x) :: r, K, h => by
    simp only [putK] at h
    cases e : Nat.beq u t with
    | true =>
      simp only [e] at h
      have e' := Nat.eq_of_beq_eq_true e
      subst e'
      refine ⟨_, h, fun t' => ?_⟩
      by_cases g : t' = u
      · subst g; simp [Fr.find]
      · have : Nat.beq u t' = false := by
          cases hb : Nat.beq u t' with
          | true => exact absurd (Nat.eq_of_beq_eq_true hb).symm g
          | false => rfl
        simp [Fr.find, g, this]
    | false =>
      simp only [e] at h
      obtain ⟨fr', hK, hfr⟩ := putK_find h
      refine ⟨_, hK, fun t' => ?_⟩
      simp only [Fr.find, hfr]
      cases hb : Nat.beq u t' with
      | true =>
        have g : t' ≠ t := by
          intro g; subst g; rw [hb] at e; cases e
        simp [g]
      | false => rfl

theorem putK_sound {tmps : Array Value} {t : Nat} {v : AV} {c : Value} {fr : Fr} {K : Fr → Prop} (ht : t < tmps.size) (hv : VR ρ n v c) (hf : FSat ρ n fr tmps) (h : putK t v fr K) :
    ∃ fr', K fr' ∧ FSat ρ n fr' (tmps.setIfInBounds t c) := by
  obtain ⟨fr', hK, hfr⟩ := putK_find h
  refine ⟨fr', hK, fun t' v' h' => ?_⟩
  rw [hfr] at h'
  by_cases e : t' = t
  · subst e
    simp only [if_true] at h'
    cases h'
    simp only [Array.getD_eq_getD_getElem?, Array.getElem?_setIfInBounds_self_of_lt ht]
    exact hv
  · simp only [e, if_false] at h'
    have := hf t' v' h'
    rwa [Array.getD_eq_getD_getElem?, Array.getElem?_setIfInBounds_ne (fun h => e h.symm), ← Array.getD_eq_getD_getElem?]

theorem keepK_find {keep : Nat → Bool} : ∀ {fr : Fr} {K : Fr → Prop}, keepK keep fr K → ∃ fr', K fr' ∧ ∀ t v, Fr.find fr' t = some v → Fr.find fr t = some v
  | [], K, h => ⟨_, h, fun t v h => h⟩
  | (u, x) :: r, K, h => by
    suffices H : ∃ fr', K fr' ∧ ∀ t, Fr.find fr' t = if keep t then Fr.find ((u, x) :: r) t else none by
      obtain ⟨fr', hK, hfr⟩ := H
      refine ⟨fr', hK, fun t v hv => ?_⟩
      rw [hfr] at hv
      split at hv
      · exact hv
      · cases hv
    exact key _ _ h
where
  key : ∀ (fr : Fr) (K : Fr → Prop), keepK keep fr K → ∃ fr', K fr' ∧ ∀ t, Fr.find fr' t = if keep t then Fr.find fr t else none
  | [], K, h => ⟨_, h, fun t => by simp [Fr.find]⟩
  | (u, x) :: r, K, h => by
    simp only [keepK] at h
    cases e : keep u with
    | true =>
      simp only [e] at h
      obtain ⟨fr', hK, hfr⟩ := key r _ h
      refine ⟨_, hK, fun t => ?_⟩
      simp only [Fr.find, hfr]
      cases hb : Nat.beq u t with
      | true =>
        have := Nat.eq_of_beq_eq_true hb
        subst this
        simp [e]
      | false => rfl
    | false =>
      simp only [e] at h
      obtain ⟨fr', hK, hfr⟩ := key r _ h
      refine ⟨fr', hK, fun t => ?_⟩
      rw [hfr]
      simp only [Fr.find]
      cases hb : Nat.beq u t with
      | true =>
        have := Nat.eq_of_beq_eq_true hb
        subst this
        simp [e]
      | false => rfl

theorem keepK_sound {keep : Nat → Bool} {tmps : Array Value} {fr : Fr} {K : Fr → Prop} (hf : FSat ρ n fr tmps) (h : keepK keep fr K) : ∃ fr', K fr' ∧ FSat ρ n fr' tmps := by
  obtain ⟨fr', hK, hfr⟩ := keepK_find h
  exact ⟨fr', hK, fun t v hv => hf t v (hfr t v hv)⟩

theorem avK_sound {a : Act} {fr : Fr} {o : Operand} {K : AV → Prop} (hf : FSat ρ n fr a.tmps) (h : avK fr o K) : ∃ v, K v ∧ VR ρ n v (a.eval o) := by
  unfold avK at h
  split at h
  · exact getK_sound hf h
  · split at h
    · exact ⟨_, h, by simp [VR, Act.eval]⟩
    · exact ⟨_, h, by simp [VR, Act.eval]⟩
    · exact ⟨_, h, by simp [VR, Act.eval]⟩
    · exact ⟨_, h, by simp [VR, Act.eval, Value.oneCell']⟩
    · exact ⟨_, h, by simp [VR, Act.eval, Value.oneCell']⟩
    · exact ⟨_, h, by simp [VR, Act.eval, Value.oneCell']⟩
    · exact ⟨_, h, by simp [VR, Act.eval, Value.oneCell']⟩
    · exact ⟨_, h, by simp [VR, Act.eval, Value.oneCell']⟩
    · exact ⟨_, h, by simp only [VR]⟩
  · exact ⟨_, h, by simp only [VR, Act.eval]; exact ⟨[], rfl, by simp only [VRs]⟩⟩
  · exact ⟨_, h, by simp only [VR]⟩

theorem avsK_sound {a : Act} {fr : Fr} : ∀ {os : List Operand} {K : List AV → Prop}, FSat ρ n fr a.tmps → avsK fr os K → ∃ vs, K vs ∧ VRs ρ n vs (os.map a.eval)
  | [], K, hf, h => ⟨[], h, by simp only [VRs, List.map_nil]⟩
  | o :: r, K, hf, h => by
    simp only [avsK] at h
    obtain ⟨v, h1, hv⟩ := avK_sound hf h
    obtain ⟨vs, h2, hvs⟩ := avsK_sound hf h1
    exact ⟨_, h2, by simp only [VRs, List.map_cons]; exact ⟨_, _, rfl, hv, hvs⟩⟩

/-- parts of a literal: the places are the same, the values correspond -/
def VRp (ρ : Nat → Loc) (n : Nat) : List (Nat × AV) → List (Nat × Value) → Prop
  | [], cs => cs = []
  | (i, v) :: vs, cs => ∃ c cr, cs = (i, c) :: cr ∧ VR ρ n v c ∧ VRp ρ n vs cr

theorem avpK_sound {a : Act} {fr : Fr} : ∀ {os : List (Nat × Operand)} {K : List (Nat × AV) → Prop}, FSat ρ n fr a.tmps → avpK fr os K →
    ∃ vs, K vs ∧ VRp ρ n vs (os.map fun p => (p.1, a.eval p.2))
  | [], K, hf, h => ⟨[], h, by simp only [VRp, List.map_nil]⟩
  | (i, o) :: r, K, hf, h => by
    simp only [avpK] at h
    obtain ⟨v, h1, hv⟩ := avK_sound hf h
    obtain ⟨vs, h2, hvs⟩ := avpK_sound hf h1
    exact ⟨_, h2, by simp only [VRp, List.map_cons]; exact ⟨_, _, rfl, hv, hvs⟩⟩

theorem avoK_sound {a : Act} {fr : Fr} {o : Option Operand} {K : Option AV → Prop} (hf : FSat ρ n fr a.tmps) (h : avoK fr o K) :
    ∃ v, K v ∧ match v, o.map a.eval with | none, none => True | some v, some c => VR ρ n v c | _, _ => False := by
  cases o with
  | none => exact ⟨none, h, trivial⟩
  | some o =>
    simp only [avoK] at h
    obtain ⟨v, h1, hv⟩ := avK_sound hf h
    exact ⟨_, h1, by simpa using hv⟩
end

/-! ### blocks -/
theorem entK_sound : ∀ {hp : Hp} {b : Nat} {K : Ent → Prop}, entK hp b K → ∃ e, hp[b]? = some e ∧ K e
  | [], b, K, h => h.elim
  | e :: r, 0, K, h => ⟨e, by simp, h⟩
  | e :: r, b + 1, K, h => by
    obtain ⟨x, h1, h2⟩ := entK_sound (hp := r) (b := b) h
    exact ⟨x, by simpa using h1, h2⟩

theorem setEntK_sound : ∀ {hp : Hp} {b : Nat} {x : Ent} {K : Hp → Prop}, setEntK hp b x K → b < hp.length ∧ K (hp.set b x)
  | [], b, x, K, h => h.elim
  | e :: r, 0, x, K, h => ⟨by simp, h⟩
  | e :: r, b + 1, x, K, h => by
    obtain ⟨h1, h2⟩ := setEntK_sound (hp := r) (b := b) h
    exact ⟨by simpa using h1, h2⟩

def dropV (b : Nat) (hp : Hp) : Hp := hp.map fun e => if e.par = some b then ⟨e.esz, e.ro, e.par, .gone⟩ else e

theorem dropViewsK_sound (b : Nat) : ∀ {hp : Hp} {K : Hp → Prop}, dropViewsK b hp K → K (dropV b hp)
  | [], K, h => h
  | e :: r, K, h => by
    simp only [dropViewsK] at h
    split at h
    · rename_i p hp
      split at h
      · rename_i hb
        have hb' : p = b := Nat.eq_of_beq_eq_true hb
        have := dropViewsK_sound b h
        simpa [dropV, hp, hb'] using this
      · rename_i hb
        have hb' : p ≠ b := fun e => by subst e; simp at hb
        have := dropViewsK_sound b h
        simpa [dropV, hp, hb'] using this
    · rename_i hp
      have := dropViewsK_sound b h
      simpa [dropV, hp] using this

theorem newEntK_sound (e : Ent) : ∀ {hp : Hp} {K : Nat → Hp → Prop}, newEntK e hp K → K hp.length (hp ++ [e])
  | [], K, h => h
  | x :: r, K, h => newEntK_sound e (hp := r) h

theorem setObjK_sound {hp : Hp} {b : Nat} {e : Ent} {o : AObj} {K : Hp → Prop} (h : setObjK hp b e o K) : b < hp.length ∧ K ((dropV b hp).set b ⟨e.esz, e.ro, e.par, o⟩) := by
  have := setEntK_sound (dropViewsK_sound b h)
  simpa [dropV] using this

/-! ### lists of cells -/
theorem sub_back {s m A : Nat} (h : s ≤ m) (h2 : A = m - s) : s + A = m := by omega

theorem dropK_sound : ∀ {vs : List AV} {off : Nat} {K : List AV → Prop}, dropK vs off K → ∃ a r, vs = a ++ r ∧ asz a = off ∧ K r
  | vs, 0, K, h => ⟨[], vs, rfl, rfl, by simpa [dropK] using h⟩
  | [], _ + 1, K, h => h.elim
  | v :: vs, n + 1, K, h => by
    simp only [dropK] at h
    split at h
    · rename_i hb
      have hb' : v.sz ≤ n + 1 := Nat.le_of_ble_eq_true hb
      obtain ⟨a, r, h1, h2, h3⟩ := dropK_sound h
      exact ⟨v :: a, r, by simp [h1], sub_back hb' h2, h3⟩
    · exact h.elim

theorem takeK_sound : ∀ {vs : List AV} {m : Nat} {K : List AV → Prop}, takeK vs m K → ∃ a r, vs = a ++ r ∧ asz a = m ∧ K a
  | vs, 0, K, h => ⟨[], vs, rfl, rfl, by simpa [takeK] using h⟩
  | [], _ + 1, K, h => h.elim
  | v :: vs, n + 1, K, h => by
    simp only [takeK] at h
    split at h
    · rename_i hb
      have hb' : v.sz ≤ n + 1 := Nat.le_of_ble_eq_true hb
      obtain ⟨a, r, h1, h2, h3⟩ := takeK_sound h
      exact ⟨v :: a, r, by simp [h1], sub_back hb' h2, h3⟩
    · exact h.elim

theorem appK_sound : ∀ {a b : List AV} {K : List AV → Prop}, appK a b K → K (a ++ b)
  | [], b, K, h => h
  | v :: a, b, K, h => appK_sound (a := a) h

theorem putSegsK_sound {new : List AV} : ∀ {vs : List AV} {off : Nat} {K : List AV → Prop}, putSegsK new vs off K →
    ∃ a m c, vs = a ++ m ++ c ∧ asz a = off ∧ asz m = asz new ∧ K (a ++ new ++ c)
  | vs, 0, K, h => by
    have h' : dropK vs (asz new) fun r => appK new r K := by simpa [putSegsK] using h
    obtain ⟨m, c, h1, h2, h3⟩ := dropK_sound h'
    exact ⟨[], m, c, by simpa using h1, rfl, h2, by simpa using appK_sound h3⟩
  | [], _ + 1, K, h => h.elim
  | v :: vs, n + 1, K, h => by
    simp only [putSegsK] at h
    split at h
    · rename_i hb
      have hb' : v.sz ≤ n + 1 := Nat.le_of_ble_eq_true hb
      obtain ⟨a, m, c, h1, h2, h3, h4⟩ := putSegsK_sound h
      exact ⟨v :: a, m, c, by simp [h1], sub_back hb' h2, h3, by simpa using h4⟩
    · exact h.elim

theorem loadSegK_sound : ∀ {vs : List AV} {off j : Nat} {K : AV → Prop}, loadSegK vs off j K →
    ∃ a v c, vs = a ++ v :: c ∧ asz a = off ∧ ((∃ k m xs, v = .ints k m xs ∧ j < m ∧ K (.int k (xs.getD j 0))) ∨ (v.isCell = true ∧ j = 0 ∧ K v))
  | [], off, j, K, h => by cases off <;> exact h.elim
  | v :: vs, 0, j, K, h => by
    refine ⟨[], v, vs, rfl, rfl, ?_⟩
    cases v with
    | ints k m xs => simp only [loadSegK] at h; exact .inl ⟨k, m, xs, rfl, h⟩
    | _ =>
      simp only [loadSegK] at h
      split at h
      · rename_i h1 h2; exact .inr ⟨by first | exact h1 | rfl, Nat.eq_of_beq_eq_true h2, h⟩
      · exact h.elim
  | v :: vs, n + 1, j, K, h => by
    simp only [loadSegK] at h
    split at h
    · rename_i hb
      have hb' : v.sz ≤ n + 1 := Nat.le_of_ble_eq_true hb
      obtain ⟨a, u, c, h1, h2, h3⟩ := loadSegK_sound h
      exact ⟨v :: a, u, c, by simp [h1], sub_back hb' h2, h3⟩
    · exact h.elim

theorem storeSegK_sound {x : AV} : ∀ {vs : List AV} {off j : Nat} {K : List AV → Prop}, storeSegK x vs off j K →
    ∃ a v c, vs = a ++ v :: c ∧ asz a = off ∧ ((∃ k m xs y, v = .ints k m xs ∧ x = .int k y ∧ j < m ∧ K (a ++ .ints k m (xs.set j y) :: c)) ∨
      ((∀ k m xs, v ≠ .ints k m xs) ∧ x.isCell = true ∧ j = 0 ∧ K (a ++ x :: c)))
  | [], off, j, K, h => by cases off <;> exact h.elim
  | v :: vs, 0, j, K, h => by
    refine ⟨[], v, vs, rfl, rfl, ?_⟩
    cases v with
    | ints k m xs =>
      simp only [storeSegK] at h
      split at h
      · rename_i k' y
        split at h
        · rename_i hk
          have hk' : k = k' := of_decide_eq_true hk
          subst hk'
          exact .inl ⟨k, m, xs, y, rfl, rfl, h⟩
        · exact h.elim
      · exact h.elim
    | _ =>
      simp only [storeSegK] at h
      split at h
      · rename_i h1 h2; exact .inr ⟨by simp, h1, Nat.eq_of_beq_eq_true h2, h⟩
      · exact h.elim
  | v :: vs, n + 1, j, K, h => by
    simp only [storeSegK] at h
    split at h
    · rename_i hb
      have hb' : v.sz ≤ n + 1 := Nat.le_of_ble_eq_true hb
      obtain ⟨a, u, c, h1, h2, h3⟩ := storeSegK_sound h
      exact ⟨v :: a, u, c, by simp [h1], sub_back hb' h2, by simpa using h3⟩
    · exact h.elim

end Go.Aw
end

section
/-
  AwD: what becomes of a memory: a block more, a block that turns, a block that goes; what the table of types says. Own work of this session.
-/
set_option linter.unusedVariables false
set_option linter.unusedSimpArgs false
namespace Go.Aw

theorem lv_live {o : AObj} {l : Loc} (h : o.lv l = true) : o.live = true := by cases o <;> first | rfl | cases h
theorem lt_of_ix {α : Type} {l : List α} {i : Nat} {x : α} (h : l[i]? = some x) : i < l.length := by
  rcases Nat.lt_or_ge i l.length with g | g
  · exact g
  · rw [List.getElem?_eq_none g] at h; cases h
theorem lv_ints {k : IntKind} {xs : List Int} {l : Loc} {i : Nat} (h : i < xs.length) : (AObj.ints k xs).lv l = true := by cases xs with | nil => simp at h | cons x r => rfl
theorem lv_row {els : List (List AV)} {l : Loc} {i : Nat} (h : i < els.length) : (AObj.row els).lv l = true := by cases els with | nil => simp at h | cons x r => rfl
/-- what has no block is empty, and has no room -/
theorem MEs_mono {ρ ρ' : Nat → Loc} {n n' : Nat} {k : IntKind} {kn : Nat} (hn : n ≤ n') (h : ∀ b, b < n → ρ' b = ρ b) : ∀ {es : List (Nat × List Int × AV)} {cs : List MapEntry}, MEs ρ n k kn es cs → MEs ρ' n' k kn es cs
  | [], _, hm => hm
  | e :: es, _, hm => by
    obtain ⟨c, cr, h1, ⟨h2, h3, h4, h5⟩, h6⟩ := hm
    exact ⟨c, cr, h1, ⟨h2, h3, h4, VR_mono hn h _ _ h5⟩, MEs_mono hn h h6⟩
theorem lv_not {o : AObj} {l : Loc} (h : ¬ o.lv l = true) : o = .gone ∨ (l.tot ≤ l.base ∧ ((∃ k, o = .ints k []) ∨ o = .row [])) := by
  cases o with
  | gone => exact .inl rfl
  | ints k xs => cases xs with
    | nil => simp [AObj.lv] at h; exact .inr ⟨h, .inl ⟨k, rfl⟩⟩
    | cons x r => exact absurd rfl h
  | var vs => exact absurd rfl h
  | row els => cases els with
    | nil => simp [AObj.lv] at h; exact .inr ⟨h, .inr rfl⟩
    | cons x r => exact absurd rfl h
  | map _ _ _ _ => exact absurd rfl h
  | iter _ _ _ _ => exact absurd rfl h
/-- of what is not there nothing is asked -/
theorem obj_dead {ρ : Nat → Loc} {n : Nat} {w : World} {l : Loc} {ro : Bool} {o : AObj} (h : ¬ o.lv l = true) : ObjOk ρ n w l ro o := by
  cases o with
  | gone => trivial
  | ints k xs => exact fun g => absurd g h
  | var vs => exact absurd rfl h
  | row els => exact fun g => absurd g h
  | map _ _ _ _ => exact absurd rfl h
  | iter _ _ _ _ => exact absurd rfl h

theorem ObjOk_mono {ρ ρ' : Nat → Loc} {n n' : Nat} {w w' : World} {l : Loc} {ro : Bool} {o : AObj} (hn : n ≤ n') (h : ∀ b, b < n → ρ' b = ρ b)
    (hw : w'.heap[l.blk]? = w.heap[l.blk]?) (ho : ObjOk ρ n w l ro o) : ObjOk ρ' n' w' l ro o := by
  cases o with
  | gone => trivial
  | ints k xs => simp only [ObjOk] at ho ⊢; rw [hw]; exact ho
  | var vs =>
    simp only [ObjOk] at ho ⊢
    rw [hw]
    obtain ⟨cells, ty, fz, h1, h2, h3, h4, h5, h6⟩ := ho
    exact ⟨cells, ty, fz, h1, h2, h3, h4, h5, CAt_mono hn h _ _ _ h6⟩
  | row els =>
    simp only [ObjOk] at ho ⊢
    rw [hw]
    intro hne
    obtain ⟨cells, ty, fz, h1, h2, h3, h4, h5⟩ := ho hne
    exact ⟨cells, ty, fz, h1, h2, h3, h4, fun i x hx => ⟨(h5 i x hx).1, CAt_mono hn h _ _ _ (h5 i x hx).2⟩⟩
  | map k kn es clock =>
    simp only [ObjOk] at ho ⊢
    rw [hw]
    obtain ⟨ces, h1, h2⟩ := ho
    exact ⟨ces, h1, MEs_mono hn h h2⟩
  | iter m since seen last =>
    simp only [ObjOk] at ho ⊢
    rw [hw, h m ho.1]
    exact ⟨by omega, ho.2⟩

/-- only the blocks' table matters, and what stands beside the memory -/
theorem HSat.congr {w0 : Base} {w w' : World} {ρ : Nat → Loc} {hp : Hp} (h : HSat w0 ρ hp w) (h1 : w'.heap = w.heap) (h2 : w'.tape = w.tape) (h3 : w'.os = w.os) (h4 : w'.output = w.output) : HSat w0 ρ hp w' where
  size := by rw [h1]; exact h.size
  old := by rw [h1]; exact h.old
  tape := by rw [h2]; exact h.tape
  os := by rw [h3]; exact h.os
  out := by rw [h4]; exact h.out
  esz := h.esz
  obj b e hb := ObjOk_mono (Nat.le_refl _) (fun _ _ => rfl) (by rw [h1]) (h.obj b e hb)
  own := by rw [h1]; exact h.own
  views := h.views
  given := h.given
  apart := h.apart

/-- what is put off does not matter to the memory -/
theorem HSat.base {w0 : Base} {w : World} {ρ : Nat → Loc} {hp : Hp} (h : HSat w0 ρ hp w) (ds : List Deferred) : HSat { w0 with ds := ds } ρ hp w :=
  ⟨h.size, h.old, h.tape, h.os, h.out, h.esz, h.obj, h.own, h.views, h.given, h.apart⟩

theorem heap_lt {w : World} {i : Nat} {o : Obj} (h : w.heap[i]? = some o) : i < w.heap.size := by
  rcases Nat.lt_or_ge i w.heap.size with h' | h'
  · exact h'
  · simp [Array.getElem?_eq_none h'] at h

theorem ObjOk.lt {ρ : Nat → Loc} {n : Nat} {w : World} {l : Loc} {ro : Bool} {o : AObj} (ho : ObjOk ρ n w l ro o) (hl : o.lv l = true) : l.blk < w.heap.size := by
  cases o with
  | gone => cases hl
  | ints k xs => obtain ⟨_, cells, ty, fz, h, _⟩ := ho hl; exact heap_lt h
  | var vs => obtain ⟨cells, ty, fz, h, _⟩ := ho; exact heap_lt h
  | row els => obtain ⟨cells, ty, fz, h, _⟩ := ho hl; exact heap_lt h
  | map k kn es clock => obtain ⟨ces, h, _⟩ := ho; exact heap_lt h
  | iter m since seen last => exact heap_lt ho.2.2

/-- a block more in the world -/
theorem HSat.push {w0 : Base} {w : World} {ρ : Nat → Loc} {hp : Hp} (h : HSat w0 ρ hp w) (o : Obj) (w' : World) (h1 : w'.heap = w.heap.push o) (h2 : w'.tape = w.tape) (h3 : w'.os = w.os) (h4 : w'.output = w.output) :
    HSat w0 ρ hp w' where
  size i hi := by rw [h1, Array.size_push]; have := h.size i hi; omega
  old i hi := by rw [h1, Array.getElem?_push]; have := h.size i hi; rw [if_neg (by omega)]; exact h.old i hi
  tape := by rw [h2]; exact h.tape
  os := by rw [h3]; exact h.os
  out := by rw [h4]; exact h.out
  esz := h.esz
  obj b e hb := by
    by_cases hl : e.o.lv (ρ b) = true
    · refine ObjOk_mono (Nat.le_refl _) (fun _ _ => rfl) ?_ (h.obj b e hb)
      have := (h.obj b e hb).lt hl
      rw [h1, Array.getElem?_push, if_neg (by omega)]
    · exact obj_dead hl
  own b e hb hr hl := by have := h.own b e hb hr hl; rw [h1, Array.size_push]; exact ⟨this.1, by omega⟩
  views := h.views
  given := h.given
  apart := h.apart

def upd (ρ : Nat → Loc) (n : Nat) (l : Loc) : Nat → Loc := fun b => if b = n then l else ρ b
theorem upd_lt {ρ : Nat → Loc} {n : Nat} {l : Loc} {b : Nat} (h : b < n) : upd ρ n l b = ρ b := by simp [upd]; omega
theorem upd_self {ρ : Nat → Loc} {n : Nat} {l : Loc} : upd ρ n l n = l := by simp [upd]

theorem get_snoc {hp : Hp} {e x : Ent} {b : Nat} (h : (hp ++ [e])[b]? = some x) : (b < hp.length ∧ hp[b]? = some x) ∨ (b = hp.length ∧ x = e) := by
  rcases Nat.lt_trichotomy b hp.length with hb | hb | hb
  · rw [List.getElem?_append_left hb] at h; exact .inl ⟨hb, h⟩
  · subst hb
    rw [List.getElem?_append_right (Nat.le_refl _)] at h
    simp at h; exact .inr ⟨rfl, h.symm⟩
  · rw [List.getElem?_eq_none (by simp; omega)] at h; cases h

/-- a block of the world that is nobody's gets a number -/
theorem HSat.add {w0 : Base} {w : World} {ρ : Nat → Loc} {hp : Hp} (h : HSat w0 ρ hp w) (e : Ent) (l : Loc) (hro : e.ro = false) (hpar : e.par = none) (hesz : l.esz = e.esz)
    (hown : e.o.lv l = true → ¬ w0.F l.blk ∧ l.blk < w.heap.size) (hap : e.o.lv l = true → ∀ b x, hp[b]? = some x → x.ro = false → x.o.lv (ρ b) = true → (ρ b).blk ≠ l.blk)
    (hobj : ObjOk (upd ρ hp.length l) (hp.length + 1) w l false e.o) : HSat w0 (upd ρ hp.length l) (hp ++ [e]) w where
  size := h.size
  old := h.old
  tape := h.tape
  os := h.os
  out := h.out
  esz b x hb := by
    rcases get_snoc hb with ⟨h1, h2⟩ | ⟨h1, h2⟩
    · rw [upd_lt h1]; exact h.esz b x h2
    · subst h1 h2; rw [upd_self]; exact hesz
  obj b x hb := by
    rcases get_snoc hb with ⟨h1, h2⟩ | ⟨h1, h2⟩
    · rw [upd_lt h1]
      exact ObjOk_mono (by simp) (fun b hb => upd_lt hb) rfl (h.obj b x h2)
    · subst h1 h2; rw [upd_self, hro]; simpa using hobj
  own b x hb hr hl := by
    rcases get_snoc hb with ⟨h1, h2⟩ | ⟨h1, h2⟩
    · rw [upd_lt h1] at hl ⊢; exact h.own b x h2 hr hl
    · subst h1 h2; rw [upd_self] at hl ⊢; exact hown hl
  views b x p hb hp' hl := by
    rcases get_snoc hb with ⟨h1, h2⟩ | ⟨h1, h2⟩
    · rw [upd_lt h1] at hl
      obtain ⟨g1, g2, e', g3, g4⟩ := h.views b x p h2 hp' hl
      have hlt : p < hp.length := by
        rcases Nat.lt_or_ge p hp.length with g | g
        · exact g
        · rw [List.getElem?_eq_none g] at g3; cases g3
      refine ⟨g1, ?_, e', ?_, by rw [upd_lt hlt]; exact g4⟩
      · rw [upd_lt h1, upd_lt hlt]; exact g2
      · rw [List.getElem?_append_left hlt]; exact g3
    · subst h2; rw [hpar] at hp'; cases hp'
  given b x hb hr hp' hl := by
    rcases get_snoc hb with ⟨h1, h2⟩ | ⟨h1, h2⟩
    · rw [upd_lt h1] at hl ⊢; exact h.given b x h2 hr hp' hl
    · subst h2; rw [hro] at hr; cases hr
  apart b b' x x' hb hb' hne hr hr' hl hl' := by
    rcases get_snoc hb with ⟨h1, h2⟩ | ⟨h1, h2⟩ <;> rcases get_snoc hb' with ⟨h1', h2'⟩ | ⟨h1', h2'⟩
    · rw [upd_lt h1] at hl ⊢; rw [upd_lt h1'] at hl' ⊢; exact h.apart b b' x x' h2 h2' hne hr hr' hl hl'
    · subst h1' h2'; rw [upd_lt h1] at hl ⊢; rw [upd_self] at hl' ⊢; exact hap hl' b x h2 hr hl
    · subst h1 h2; rw [upd_lt h1'] at hl' ⊢; rw [upd_self] at hl ⊢; exact fun g => hap hl b' x' h2' hr' hl' g.symm
    · omega

theorem dropV_get {b : Nat} {hp : Hp} {i : Nat} {x : Ent} (h : (dropV b hp)[i]? = some x) : ∃ y, hp[i]? = some y ∧ x = (if y.par = some b then ⟨y.esz, y.ro, y.par, .gone⟩ else y) := by
  simp only [dropV, List.getElem?_map, Option.map_eq_some_iff] at h
  obtain ⟨y, h1, h2⟩ := h
  exact ⟨y, h1, h2.symm⟩

theorem set_get {hp : Hp} {b : Nat} {e x : Ent} {i : Nat} (h : (hp.set b e)[i]? = some x) : (i = b ∧ x = e) ∨ (i ≠ b ∧ hp[i]? = some x) := by
  by_cases hi : b = i
  · subst hi
    rcases Nat.lt_or_ge b hp.length with hb | hb
    · rw [List.getElem?_set_self hb] at h; cases h; exact .inl ⟨rfl, rfl⟩
    · rw [List.getElem?_eq_none (by simpa using hb)] at h; cases h
  · rw [List.getElem?_set_ne hi] at h; exact .inr ⟨fun e => hi e.symm, h⟩

theorem dropV_length {b : Nat} {hp : Hp} : (dropV b hp).length = hp.length := by simp [dropV]

/-- a block of ours turns: nobody else sees it but what was cut out of it -/
theorem HSat.set {w0 : Base} {w w' : World} {ρ : Nat → Loc} {hp : Hp} (h : HSat w0 ρ hp w) {b : Nat} {e : Ent} (hb : hp[b]? = some e) (hr : e.ro = false) (hl : e.o.lv (ρ b) = true) (o : AObj)
    (h1 : ∀ i, i ≠ (ρ b).blk → w'.heap[i]? = w.heap[i]?) (hs : w'.heap.size = w.heap.size) (h2 : w'.tape = w.tape) (h3 : w'.os = w.os) (h4 : w'.output = w.output)
    (hobj : ObjOk ρ hp.length w' (ρ b) false o) : HSat w0 ρ ((dropV b hp).set b ⟨e.esz, e.ro, e.par, o⟩) w' where
  size := by rw [hs]; exact h.size
  old i hi := by
    have := (h.own b e hb hr hl).1
    rw [h1 i (fun g => this (g ▸ hi))]; exact h.old i hi
  tape := by rw [h2]; exact h.tape
  os := by rw [h3]; exact h.os
  out := by rw [h4]; exact h.out
  esz i x hx := by
    rcases set_get hx with ⟨g1, g2⟩ | ⟨g1, g2⟩
    · subst g1 g2; exact h.esz i e hb
    · obtain ⟨y, g3, g4⟩ := dropV_get g2
      have := h.esz i y g3
      subst g4; split <;> exact this
  obj i x hx := by
    simp only [List.length_set, dropV_length]
    rcases set_get hx with ⟨g1, g2⟩ | ⟨g1, g2⟩
    · subst g1 g2; rw [hr]; exact hobj
    · obtain ⟨y, g3, g4⟩ := dropV_get g2
      subst g4
      split
      · trivial
      · rename_i hpar
        by_cases hly : y.o.lv (ρ i) = true
        · refine ObjOk_mono (Nat.le_refl _) (fun _ _ => rfl) (h1 _ ?_) (h.obj i y g3)
          cases hry : y.ro with
          | false => exact h.apart i b y e g3 hb g1 hry hr hly hl
          | true =>
            cases hpy : y.par with
            | none =>
              have g5 := h.given i y g3 hry hpy hly
              have := (h.own b e hb hr hl).1
              exact fun g => this (g ▸ g5)
            | some p =>
              obtain ⟨q1, q2, e', q3, q4, q5⟩ := h.views i y p g3 hpy hly
              have hpb : p ≠ b := fun g => hpar (by rw [hpy, g])
              rw [q2]; exact h.apart p b e' e q3 hb hpb q4 hr q5 hl
        · exact obj_dead hly
  own i x hx hrx hlx := by
    rw [hs]
    rcases set_get hx with ⟨g1, g2⟩ | ⟨g1, g2⟩
    · subst g1 g2; exact h.own i e hb hr hl
    · obtain ⟨y, g3, g4⟩ := dropV_get g2
      subst g4
      split at hlx
      · cases hlx
      · rename_i hp'
        rw [if_neg hp'] at hrx
        exact h.own i y g3 hrx hlx
  views i x p hx hpx hlx := by
    rcases set_get hx with ⟨g1, g2⟩ | ⟨g1, g2⟩
    · subst g1 g2
      exact absurd (h.views i e p hb hpx hl).1 (by rw [hr]; simp)
    · obtain ⟨y, g3, g4⟩ := dropV_get g2
      subst g4
      split at hlx
      · cases hlx
      · rename_i hp'
        rw [if_neg hp'] at hpx ⊢
        obtain ⟨q1, q2, e', q3, q4, q5⟩ := h.views i y p g3 hpx hlx
        have hpb : p ≠ b := fun g => hp' (by rw [hpx, g])
        refine ⟨q1, q2, e', ?_, q4, q5⟩
        rw [List.getElem?_set_ne (fun g => hpb g.symm)]
        simp only [dropV, List.getElem?_map, q3, Option.map_some]
        rw [if_neg]
        intro g
        exact absurd (h.views p e' b q3 g q5).1 (by rw [q4]; simp)
  given i x hx hrx hpx hlx := by
    rcases set_get hx with ⟨g1, g2⟩ | ⟨g1, g2⟩
    · subst g1 g2; rw [hr] at hrx; cases hrx
    · obtain ⟨y, g3, g4⟩ := dropV_get g2
      subst g4
      split at hlx
      · cases hlx
      · rename_i hp'
        rw [if_neg hp'] at hpx hrx
        exact h.given i y g3 hrx hpx hlx
  apart i i' x x' hx hx' hne hrx hrx' hlx hlx' := by
    have key : ∀ (i : Nat) (x : Ent), ((dropV b hp).set b ⟨e.esz, e.ro, e.par, o⟩)[i]? = some x → x.ro = false → x.o.lv (ρ i) = true → ∃ y : Ent, hp[i]? = some y ∧ y.ro = false ∧ y.o.lv (ρ i) = true := by
      intro i x hx hrx hlx
      rcases set_get hx with ⟨g1, g2⟩ | ⟨g1, g2⟩
      · subst g1; exact ⟨e, hb, hr, hl⟩
      · obtain ⟨y, g3, g4⟩ := dropV_get g2
        subst g4
        split at hlx
        · cases hlx
        · rename_i hp'
          rw [if_neg hp'] at hrx
          exact ⟨y, g3, hrx, hlx⟩
    obtain ⟨y, q1, q2, q3⟩ := key i x hx hrx hlx
    obtain ⟨y', q1', q2', q3'⟩ := key i' x' hx' hrx' hlx'
    exact h.apart i i' y y' q1 q1' hne q2 q2' q3 q3'

/-- a block that is told no more -/
theorem HSat.dull {w0 : Base} {w : World} {ρ : Nat → Loc} {hp : Hp} (h : HSat w0 ρ hp w) {b : Nat} {e : Ent} (hb : hp[b]? = some e) (o : AObj) (ho : ¬ o.lv (ρ b) = true) :
    HSat w0 ρ ((dropV b hp).set b ⟨e.esz, e.ro, e.par, o⟩) w where
  size := h.size
  old := h.old
  tape := h.tape
  os := h.os
  out := h.out
  esz i x hx := by
    rcases set_get hx with ⟨g1, g2⟩ | ⟨g1, g2⟩
    · subst g1 g2; exact h.esz i e hb
    · obtain ⟨y, g3, g4⟩ := dropV_get g2
      have := h.esz i y g3
      subst g4; split <;> exact this
  obj i x hx := by
    simp only [List.length_set, dropV_length]
    rcases set_get hx with ⟨g1, g2⟩ | ⟨g1, g2⟩
    · subst g1 g2; exact obj_dead ho
    · obtain ⟨y, g3, g4⟩ := dropV_get g2
      subst g4
      split
      · trivial
      · exact h.obj i y g3
  own i x hx hrx hlx := by
    rcases set_get hx with ⟨g1, g2⟩ | ⟨g1, g2⟩
    · subst g1 g2; exact absurd hlx ho
    · obtain ⟨y, g3, g4⟩ := dropV_get g2
      subst g4
      split at hlx
      · cases hlx
      · rename_i hp'
        rw [if_neg hp'] at hrx
        exact h.own i y g3 hrx hlx
  views i x p hx hpx hlx := by
    rcases set_get hx with ⟨g1, g2⟩ | ⟨g1, g2⟩
    · subst g1 g2; exact absurd hlx ho
    · obtain ⟨y, g3, g4⟩ := dropV_get g2
      subst g4
      split at hlx
      · cases hlx
      · rename_i hp'
        rw [if_neg hp'] at hpx ⊢
        obtain ⟨q1, q2, e', q3, q4, q5⟩ := h.views i y p g3 hpx hlx
        have hpb : p ≠ b := fun g => hp' (by rw [hpx, g])
        refine ⟨q1, q2, e', ?_, q4, q5⟩
        rw [List.getElem?_set_ne (fun g => hpb g.symm)]
        simp only [dropV, List.getElem?_map, q3, Option.map_some]
        rw [if_neg]
        intro g
        exact absurd (h.views p e' b q3 g q5).1 (by rw [q4]; simp)
  given i x hx hrx hpx hlx := by
    rcases set_get hx with ⟨g1, g2⟩ | ⟨g1, g2⟩
    · subst g1 g2; exact absurd hlx ho
    · obtain ⟨y, g3, g4⟩ := dropV_get g2
      subst g4
      split at hlx
      · cases hlx
      · rename_i hp'
        rw [if_neg hp'] at hpx hrx
        exact h.given i y g3 hrx hpx hlx
  apart i i' x x' hx hx' hne hrx hrx' hlx hlx' := by
    have key : ∀ (i : Nat) (x : Ent), ((dropV b hp).set b ⟨e.esz, e.ro, e.par, o⟩)[i]? = some x → x.ro = false → x.o.lv (ρ i) = true → ∃ y : Ent, hp[i]? = some y ∧ y.ro = false ∧ y.o.lv (ρ i) = true := by
      intro i x hx hrx hlx
      rcases set_get hx with ⟨g1, g2⟩ | ⟨g1, g2⟩
      · subst g1; rw [g2] at hlx; exact absurd hlx ho
      · obtain ⟨y, g3, g4⟩ := dropV_get g2
        subst g4
        split at hlx
        · cases hlx
        · rename_i hp'
          rw [if_neg hp'] at hrx
          exact ⟨y, g3, hrx, hlx⟩
    obtain ⟨y, q1, q2, q3⟩ := key i x hx hrx hlx
    obtain ⟨y', q1', q2', q3'⟩ := key i' x' hx' hrx' hlx'
    exact h.apart i i' y y' q1 q1' hne q2 q2' q3 q3'

/-- what was cut out of a variable of ours -/
theorem HSat.view {w0 : Base} {w : World} {ρ : Nat → Loc} {hp : Hp} (h : HSat w0 ρ hp w) {b : Nat} {x : Ent} (hb : hp[b]? = some x) (hr : x.ro = false) (hl : x.o.lv (ρ b) = true) (e : Ent) (l : Loc)
    (hro : e.ro = true) (hpar : e.par = some b) (hesz : l.esz = e.esz) (hblk : l.blk = (ρ b).blk)
    (hobj : ObjOk (upd ρ hp.length l) (hp.length + 1) w l true e.o) : HSat w0 (upd ρ hp.length l) (hp ++ [e]) w := by
  have hlt : b < hp.length := by
    rcases Nat.lt_or_ge b hp.length with g | g
    · exact g
    · rw [List.getElem?_eq_none g] at hb; cases hb
  exact {
    size := h.size
    old := h.old
    tape := h.tape
    os := h.os
    out := h.out
    esz := fun i y hy => by
      rcases get_snoc hy with ⟨h1, h2⟩ | ⟨h1, h2⟩
      · rw [upd_lt h1]; exact h.esz i y h2
      · subst h1 h2; rw [upd_self]; exact hesz
    obj := fun i y hy => by
      rcases get_snoc hy with ⟨h1, h2⟩ | ⟨h1, h2⟩
      · rw [upd_lt h1]
        exact ObjOk_mono (by simp) (fun b hb => upd_lt hb) rfl (h.obj i y h2)
      · subst h1 h2; rw [upd_self, hro]; simpa using hobj
    own := fun i y hy hr' hl' => by
      rcases get_snoc hy with ⟨h1, h2⟩ | ⟨h1, h2⟩
      · rw [upd_lt h1] at hl' ⊢; exact h.own i y h2 hr' hl'
      · subst h2; rw [hro] at hr'; cases hr'
    views := fun i y p hy hp' hl' => by
      rcases get_snoc hy with ⟨h1, h2⟩ | ⟨h1, h2⟩
      · rw [upd_lt h1] at hl'
        obtain ⟨g1, g2, e', g3, g4⟩ := h.views i y p h2 hp' hl'
        have hlt' : p < hp.length := by
          rcases Nat.lt_or_ge p hp.length with g | g
          · exact g
          · rw [List.getElem?_eq_none g] at g3; cases g3
        refine ⟨g1, ?_, e', ?_, by rw [upd_lt hlt']; exact g4⟩
        · rw [upd_lt h1, upd_lt hlt']; exact g2
        · rw [List.getElem?_append_left hlt']; exact g3
      · subst h1 h2
        rw [hpar] at hp'
        cases hp'
        refine ⟨hro, ?_, x, ?_, hr, by rw [upd_lt hlt]; exact hl⟩
        · rw [upd_self, upd_lt hlt]; exact hblk
        · rw [List.getElem?_append_left hlt]; exact hb
    given := fun i y hy hr' hp' hl' => by
      rcases get_snoc hy with ⟨h1, h2⟩ | ⟨h1, h2⟩
      · rw [upd_lt h1] at hl' ⊢; exact h.given i y h2 hr' hp' hl'
      · subst h2; rw [hpar] at hp'; cases hp'
    apart := fun i i' y y' hy hy' hne hr' hr'' hl' hl'' => by
      rcases get_snoc hy with ⟨h1, h2⟩ | ⟨h1, h2⟩ <;> rcases get_snoc hy' with ⟨h1', h2'⟩ | ⟨h1', h2'⟩
      · rw [upd_lt h1] at hl' ⊢; rw [upd_lt h1'] at hl'' ⊢; exact h.apart i i' y y' h2 h2' hne hr' hr'' hl' hl''
      · subst h2'; rw [hro] at hr''; cases hr''
      · subst h2; rw [hro] at hr'; cases hr'
      · omega }

/-! ### the table of types -/
def tdOk : TD → TypeDesc → Prop
  | .int k, .int k' => k = k'
  | .bool, .bool => True
  | .str, .string => True
  | .ptr, .pointer _ => True
  | .slice e, .slice e' => e = e'
  | .array n e, .array n' e' => n = n' ∧ e = e'
  | .struct fs, .struct fields => fs = fields.toList.map fun f => (f.offset, f.type)
  | .map k e, .map k' e' => k = k' ∧ e = e'
  | .func, .func _ _ _ => True
  | _, _ => False

/-- the cells of a type's zero value -/
def ZOk (z : List AV) (cs : List Value) : Prop := (∀ ρ n, CAt ρ n (fun i => cs[i]?) z 0) ∧ cs.length = asz z

structure TOk (P : Program) (T : Tab) : Prop where
  ok : ∀ t i, T t = some i → ∃ info d zv, P.info? t = some info ∧ info.size = i.sz ∧ info.bytes = i.bys ∧ P.underlying t = some d ∧ tdOk i.d d ∧
    info.zero = some zv ∧ asz i.z = i.sz ∧ ZOk i.z zv.cells.toList ∧ (i.d.agg = false → i.sz = 1) ∧ (i.d.agg = true ↔ ∃ cs, zv = .agg cs) ∧
    (∀ fields, d = .struct fields → ∀ f ∈ fields.toList, (P.info? f.type).isSome = true) ∧
    (i.eq = true → P.eqGuardType P.depth t = false ∧ ∀ fields, d = .struct fields → P.stoodInHeld t = false ∧ ∀ f ∈ fields.toList, f.name ≠ "_")

theorem td_some {T : Tab} {t : TypeId} {d : TD} (h : td T t = d) (hd : d ≠ .other) : ∃ i, T t = some i ∧ i.d = d := by
  unfold td at h
  cases e : T t with
  | none => rw [e] at h; exact absurd h.symm hd
  | some i => rw [e] at h; exact ⟨i, rfl, h⟩

section
variable {P : Program} {T : Tab} (hT : TOk P T)
include hT

theorem TOk.under {t : TypeId} {d : TD} (h : td T t = d) (hd : d ≠ .other) : ∃ d', P.underlying t = some d' ∧ tdOk d d' := by
  obtain ⟨i, h1, h2⟩ := td_some h hd
  obtain ⟨info, d', zv, _, _, _, g, g', _⟩ := hT.ok t i h1
  exact ⟨d', g, h2 ▸ g'⟩

theorem TOk.u_int {t : TypeId} {k : IntKind} (h : td T t = .int k) : P.underlying t = some (.int k) := by
  obtain ⟨d, h1, h2⟩ := hT.under h (by simp)
  cases d <;> simp_all [tdOk]
theorem TOk.u_bool {t : TypeId} (h : td T t = .bool) : P.underlying t = some .bool := by
  obtain ⟨d, h1, h2⟩ := hT.under h (by simp)
  cases d <;> simp_all [tdOk]
theorem TOk.u_str {t : TypeId} (h : td T t = .str) : P.underlying t = some .string := by
  obtain ⟨d, h1, h2⟩ := hT.under h (by simp)
  cases d <;> simp_all [tdOk]
theorem TOk.u_ptr {t : TypeId} (h : td T t = .ptr) : ∃ e, P.underlying t = some (.pointer e) := by
  obtain ⟨d, h1, h2⟩ := hT.under h (by simp)
  cases d <;> simp_all [tdOk]
theorem TOk.u_slice {t e : TypeId} (h : td T t = .slice e) : P.underlying t = some (.slice e) := by
  obtain ⟨d, h1, h2⟩ := hT.under h (by simp)
  cases d <;> simp_all [tdOk]
theorem TOk.u_array {t e : TypeId} {n : Nat} (h : td T t = .array n e) : P.underlying t = some (.array n e) := by
  obtain ⟨d, h1, h2⟩ := hT.under h (by simp)
  cases d <;> simp_all [tdOk]
theorem TOk.u_struct {t : TypeId} {fs : List (Nat × TypeId)} (h : td T t = .struct fs) : ∃ fields, P.underlying t = some (.struct fields) ∧ fs = fields.toList.map fun f => (f.offset, f.type) := by
  obtain ⟨d, h1, h2⟩ := hT.under h (by simp)
  cases d <;> simp_all [tdOk]

theorem TOk.size {t : TypeId} {i : TI} (h : T t = some i) (w : World) : (sizeOf t).run P w = .ok i.sz w := by
  obtain ⟨info, d, zv, h1, h2, _⟩ := hT.ok t i h
  simp [sizeOf, typeInfo, h1, h2]
theorem TOk.info {t : TypeId} {i : TI} (h : T t = some i) (w : World) : ∃ info, (typeInfo t).run P w = .ok info w ∧ info.size = i.sz ∧ info.bytes = i.bys := by
  obtain ⟨info, d, zv, h1, h2, h3, _⟩ := hT.ok t i h
  exact ⟨info, by simp [typeInfo, h1], h2, h3⟩
theorem TOk.agg {t : TypeId} {i : TI} (h : T t = some i) (w : World) : (isAgg t).run P w = .ok i.d.agg w := by
  obtain ⟨info, d, zv, h1, h2, h3, h4, h5, _⟩ := hT.ok t i h
  have := run_underlying h4 w
  simp only [isAgg, Sem.run_bind, this, Result.andThen_ok]
  cases hd : i.d <;> rw [hd] at h5 <;> cases d <;> simp_all [tdOk, TD.agg]
theorem TOk.zero_one {t : TypeId} {i : TI} (h : T t = some i) (hd : i.d.agg = false) {w w' : World} {zv : Value} (hz : (zeroValue t).run P w = .ok zv w') (cs : Array Value) : zv ≠ .agg cs := by
  obtain ⟨info, d, zv', h1, h2, h3, h4, h5, h6, h7, h8, h9, h10, _⟩ := hT.ok t i h
  intro e
  have : zv = zv' := by
    simp [zeroValue, typeInfo, h1, h6] at hz
    exact hz.1.symm
  have := h10.2 ⟨cs, this ▸ e⟩
  rw [hd] at this; cases this
theorem TOk.zero {t : TypeId} {i : TI} (h : T t = some i) (w : World) : ∃ zv, (zeroValue t).run P w = .ok zv w ∧ ZOk i.z zv.cells.toList ∧ zv.cells.size = i.sz ∧ (i.d.agg = true → ∃ cs, zv = .agg cs) := by
  obtain ⟨info, d, zv, h1, h2, h3, h4, h5, h6, h7, h8, h9, h10, _⟩ := hT.ok t i h
  refine ⟨zv, by simp [zeroValue, typeInfo, h1, h6], h8, ?_, h10.1⟩
  have := h8.2
  rw [h7] at this
  simpa using this
end

end Go.Aw
end

section
/-
  AwE: loads and stores. Own work of this session.
-/
set_option linter.unusedVariables false
set_option linter.unusedSimpArgs false
namespace Go.Aw

theorem cell_of {w : World} {b o : Nat} {cells : Array Value} {ty : TypeId} {fz : Nat × Nat} (h : w.heap[b]? = some (.cells cells ty fz)) : w.cell? ⟨b, o, none⟩ = cells[o]? := by
  simp [World.cell?, h]

theorem frozen_of {w : World} {b o : Nat} {cells : Array Value} {ty : TypeId} {fz : Nat × Nat} (h : w.heap[b]? = some (.cells cells ty fz)) (hf : fz.1 = fz.2 ∨ cells.size ≤ fz.1) (ho : o < cells.size) :
    w.frozen? ⟨b, o, none⟩ = false := by
  obtain ⟨lo, hi⟩ := fz
  simp only at hf
  simp only [World.frozen?, h]
  rcases hf with hf | hf
  · subst hf; simp; try omega
  · simp; omega

theorem addr_add (b o i : Nat) : (⟨b, o, none⟩ : Addr).add i = ⟨b, o + i, none⟩ := by
  unfold Addr.add; split <;> simp_all

/-- cells read one behind the other -/
theorem run_cells {P : Program} {w : World} {b o n : Nat} {cells : Array Value} {ty : TypeId} {fz : Nat × Nat} (h : w.heap[b]? = some (.cells cells ty fz)) (hn : o + n ≤ cells.size) :
    ∃ cs : List Value, (loadCells ⟨b, o, none⟩ n).run P w = .ok cs.toArray w ∧ cs.length = n ∧ ∀ j, j < n → cs[j]? = cells[o + j]? := by
  refine ⟨(List.range n).map fun j => (cells[o + j]?).getD undef, ?_, by simp, fun j hj => ?_⟩
  · exact run_loadCells (P := P) w _ n (fun j => (cells[o + j]?).getD undef) (fun j hj => by
      rw [addr_add, cell_of h]
      rw [Array.getElem?_eq_getElem (by omega)]; rfl)
  · simp [hj]
    rw [Array.getElem?_eq_getElem (by omega)]; rfl

section
variable {P : Program} {T : Tab} (hT : TOk P T) {w0 : Base} {w : World} {ρ : Nat → Loc} {hp : Hp} (hs : HSat w0 ρ hp w)

/-- what lies in a part of some cells, as a value -/
theorem agg_of {n : Nat} {b o sz : Nat} {cells : Array Value} {ty : TypeId} {fz : Nat × Nat} {s : List AV} {f : Nat → Option Value} (h : w.heap[b]? = some (.cells cells ty fz))
    (hsz : asz s = sz) (off : Nat) (hf : ∀ j, f j = cells[o + j]?) (hc : CAt ρ n f s off) (hb : o + off + sz ≤ cells.size) :
    ∃ cv, (do pure (Value.agg (← loadCells ⟨b, o + off, none⟩ sz))).run P w = .ok cv w ∧ VR ρ n (.agg s) cv := by
  obtain ⟨cs, h1, h2, h3⟩ := run_cells (P := P) h hb
  refine ⟨.agg cs.toArray, by simp [h1], ?_⟩
  simp only [VR]
  refine ⟨cs, rfl, ?_, by omega⟩
  refine CAt_shift off s 0 (fun j hj => ?_) (by simpa using hc)
  rw [Nat.zero_add, Nat.zero_add, h3 j (by omega), hf]
  congr 1; omega

include hT in
theorem load_in {t : TypeId} {i : TI} {n : Nat} {b o off j : Nat} {cells : Array Value} {ty : TypeId} {fz : Nat × Nat} {vs : List AV} {K : AV → Prop}
    (ht : T t = some i) (h : w.heap[b]? = some (.cells cells ty fz)) (hc : CAt ρ n (fun j => cells[o + j]?) vs 0) (hb : o + asz vs ≤ cells.size)
    (hk : match i.d.agg with
      | true => (match Nat.beq j 0 with | true => dropK vs off fun r => takeK r i.sz fun s => K (.agg s) | false => False)
      | false => loadSegK vs off j K) :
    ∃ v cv, K v ∧ (loadVar t ⟨b, o + off + j, none⟩).run P w = .ok cv w ∧ VR ρ n v cv := by
  cases hag : i.d.agg with
  | true =>
    simp only [hag] at hk
    split at hk
    · rename_i hj
      have hj' : j = 0 := Nat.eq_of_beq_eq_true hj
      subst hj'
      obtain ⟨a, r, h1, h2, h3⟩ := dropK_sound hk
      obtain ⟨s, c, h4, h5, h6⟩ := takeK_sound h3
      subst h1 h4
      rw [CAt_append, CAt_append] at hc
      simp only [asz_append] at hb
      obtain ⟨cv, g1, g2⟩ := agg_of (P := P) (ρ := ρ) (n := n) (o := o) h h5 off (fun j => rfl) (by rw [← h2]; simpa using hc.2.1) (by omega)
      refine ⟨_, cv, h6, ?_, g2⟩
      simp only [Sem.run_bind] at g1
      simp only [loadVar, Sem.run_bind, hT.agg ht w, hag, Result.andThen_ok, if_true, hT.size ht w, Nat.add_zero]
      exact g1
    · exact hk.elim
  | false =>
    simp only [hag] at hk
    obtain ⟨a, v, c, h1, h2, h3⟩ := loadSegK_sound hk
    subst h1
    rw [CAt_append] at hc
    simp only [asz_append, asz] at hb
    have hload : ∀ cv, cells[o + off + j]? = some cv → (loadVar t ⟨b, o + off + j, none⟩).run P w = .ok cv w := by
      intro cv hcv
      have hc' : w.cell? ⟨b, o + off + j, none⟩ = some cv := by rw [cell_of h]; exact hcv
      simp [loadVar, hT.agg ht w, hag, hc']
    rcases h3 with ⟨k, m, xs, rfl, hj, hK⟩ | ⟨hv, rfl, hK⟩
    · simp only [CAt, Nat.zero_add] at hc
      have := hc.2.1.2 j hj
      rw [h2, ← Nat.add_assoc] at this
      exact ⟨_, _, hK, hload _ this, by simp only [VR]⟩
    · rw [CAt_cons (isCell_not_ints hv)] at hc
      obtain ⟨cv, g1, g2, g3⟩ := hc.2.1
      simp only [Nat.zero_add] at g1
      rw [h2] at g1
      exact ⟨v, cv, hK, hload cv (by simpa using g1), g3⟩

include hT hs in
theorem evLoad_sound {t : TypeId} {a : AV} {ca : Value} {K : AV → Prop} (ha : VR ρ hp.length a ca) (h : evLoad T hp t a K) :
    ∃ v cv, K v ∧ (Instr.loadAt t ca).run P w = .ok cv w ∧ VR ρ hp.length v cv := by
  unfold evLoad at h
  split at h
  case h_2 => exact h.elim
  rename_i b x off j
  simp only [VR] at ha
  obtain ⟨hb, rfl⟩ := ha
  simp only [Instr.loadAt, Instr.sureAddr, Sem.run_bind, Sem.run_pure, Result.andThen_ok]
  split at h
  case h_2 => exact h.elim
  rename_i i ht
  obtain ⟨e, he, hK⟩ := entK_sound h
  clear h
  have hob := hs.obj b e he
  have hez := hs.esz b e he
  cases heo : e.o with
  | gone => rw [heo] at hK; exact hK.elim
  | map _ _ _ _ => rw [heo] at hK; exact hK.elim
  | iter _ _ _ _ => rw [heo] at hK; exact hK.elim
  | ints k xs =>
    rw [heo] at hK hob
    simp only at hK
    split at hK
    · rename_i h1 h2 h3
      have h2' : off = 0 := Nat.eq_of_beq_eq_true h2
      have h3' : j = 0 := Nat.eq_of_beq_eq_true h3
      subst h2' h3'
      simp only [ObjOk] at hob
      obtain ⟨q1, cells, ty, fz, q2, q3, q4, q5, q6⟩ := hob (lv_ints hK.1)
      refine ⟨_, .int k (xs.getD x 0), hK.2, ?_, by simp only [VR]⟩
      · have hc : w.cell? ⟨(ρ b).blk, (ρ b).base + x * (ρ b).esz + 0 + 0, none⟩ = some (.int k (xs.getD x 0)) := by
          rw [cell_of q2, q1]; simpa using q6 x hK.1
        simp [loadVar, hT.agg ht w, h1] 
        simp at hc
        simp [hc]
    · exact hK.elim
  | var vs =>
    rw [heo] at hK hob
    simp only at hK
    split at hK
    case h_2 => exact hK.elim
    rename_i hx
    have hx' : x = 0 := Nat.eq_of_beq_eq_true hx
    subst hx'
    simp only [ObjOk] at hob
    obtain ⟨cells, ty, fz, q2, q3, q4, q5, q6, q7⟩ := hob
    simp only [Nat.zero_mul, Nat.add_zero]
    exact load_in hT ht q2 q7 (by omega) hK
  | row els =>
    rw [heo] at hK hob
    simp only at hK
    split at hK
    case h_2 => exact hK.elim
    rename_i vs hvs
    simp only [ObjOk] at hob
    obtain ⟨cells, ty, fz, q2, q3, q4, q5, q6⟩ := hob (lv_row (lt_of_ix hvs))
    obtain ⟨q7, q8⟩ := q6 x vs hvs
    have hlt : x < els.length := by
      rcases Nat.lt_or_ge x els.length with g | g
      · exact g
      · rw [List.getElem?_eq_none g] at hvs; cases hvs
    have hmul : (x + 1) * (ρ b).esz ≤ els.length * (ρ b).esz := Nat.mul_le_mul_right _ hlt
    rw [Nat.add_mul, Nat.one_mul] at hmul
    exact load_in hT ht q2 q8 (by omega) hK

/-! ### storing cells -/
theorem setCells_facts : ∀ (vs : List Value) (b o : Nat) (w : World) (cells : Array Value) (ty : TypeId) (fz : Nat × Nat), w.heap[b]? = some (.cells cells ty fz) → o + vs.length ≤ cells.size →
    ∃ cells', (w.setCells b o vs).heap[b]? = some (.cells cells' ty fz) ∧ cells'.size = cells.size ∧ (∀ i, i < o ∨ o + vs.length ≤ i → cells'[i]? = cells[i]?) ∧ (∀ i, i < vs.length → cells'[o + i]? = vs[i]?) ∧
      (∀ i, i ≠ b → (w.setCells b o vs).heap[i]? = w.heap[i]?) ∧ (w.setCells b o vs).heap.size = w.heap.size ∧ (w.setCells b o vs).tape = w.tape ∧ (w.setCells b o vs).os = w.os ∧
      (w.setCells b o vs).output = w.output ∧ (w.setCells b o vs).drawn = w.drawn
  | [], b, o, w, cells, ty, fz, h, hn => ⟨cells, h, rfl, fun i hi => rfl, fun i hi => absurd hi (by simp), fun i hi => rfl, rfl, rfl, rfl, rfl, rfl⟩
  | v :: vs, b, o, w, cells, ty, fz, h, hn => by
    simp only [List.length_cons] at hn
    have hb := heap_lt h
    have h1 : (w.setCell ⟨b, o, none⟩ v).heap[b]? = some (.cells (cells.setIfInBounds o v) ty fz) := by
      simp only [World.setCell, Array.getElem?_modify, h]
      simp
    obtain ⟨cells', g1, g2, g3, g4, g5, g6, g7, g8, g9, g10⟩ := setCells_facts vs b (o + 1) (w.setCell ⟨b, o, none⟩ v) _ ty fz h1 (by simp; omega)
    refine ⟨cells', g1, by rw [g2]; simp, fun i hi => ?_, fun i hi => ?_, fun i hi => ?_, ?_, ?_, ?_, ?_, ?_⟩
    · simp only [List.length_cons] at hi
      rw [g3 i (by omega), Array.getElem?_setIfInBounds_ne (by omega)]
    · simp only [List.length_cons] at hi
      cases i with
      | zero =>
        rw [Nat.add_zero, g3 o (by omega), Array.getElem?_setIfInBounds_self_of_lt (by omega)]
        simp
      | succ i =>
        have := g4 i (by omega)
        rw [show o + (i + 1) = o + 1 + i by omega, this]; simp
    · rw [World.setCells, g5 i hi]
      simp only [World.setCell, Array.getElem?_modify]
      rw [if_neg (fun e => hi e.symm)]
    · rw [World.setCells, g6]; simp
    · rw [World.setCells, g7]; rfl
    · rw [World.setCells, g8]; rfl
    · rw [World.setCells, g9]; rfl
    · rw [World.setCells, g10]; rfl

/-- storing some cells into a block -/
theorem store_cells {b o : Nat} {cells : Array Value} {ty : TypeId} {fz : Nat × Nat} {vs : List Value} (h : w.heap[b]? = some (.cells cells ty fz)) (hf : fz.1 = fz.2 ∨ cells.size ≤ fz.1)
    (hn : o + vs.length ≤ cells.size) (h1 : ∀ v ∈ vs, v.oneCell' = true) : (storeCells ⟨b, o, none⟩ vs).run P w = .ok () (w.setCells b o vs) := by
  refine run_storeCells_cells (P := P) b o vs 0 w (fun j hj => ?_) (fun j hj => ?_) h1
  · rw [cell_of h, Array.getElem?_eq_getElem (by omega)]; rfl
  · exact frozen_of h hf (by omega)

/-- the cells that a value stands for -/
theorem CAt_of_cells {n : Nat} {v : AV} {cv : Value} (hv : VR ρ n v cv) (hc : v.isCell = true ∨ ∃ s, v = .agg s) :
    (cv.cells.toList.length = asz v.segs) ∧ CAt ρ n (fun i => cv.cells.toList[i]?) v.segs 0 ∧ ∀ u ∈ cv.cells.toList, u.oneCell' = true := by
  rcases hc with hc | ⟨s, rfl⟩
  · have h1 := VR_isCell hc hv
    have hseg : v.segs = [v] := by cases v <;> first | rfl | simp [AV.isCell] at hc
    have hcell : cv.cells = #[cv] := by cases cv <;> first | rfl | simp [Value.oneCell'] at h1
    rw [hseg, hcell]
    refine ⟨by simp [asz, AV.sz_one (isCell_not_ints hc)], ?_, by simp [h1]⟩
    rw [CAt_cons (isCell_not_ints hc)]
    exact ⟨⟨cv, by simp, h1, hv⟩, by simp only [CAt]⟩
  · simp only [VR] at hv
    obtain ⟨cs, rfl, h1, h2⟩ := hv
    refine ⟨by simpa [Value.cells, AV.segs] using h2, by simpa [Value.cells, AV.segs] using h1, ?_⟩
    intro u hu
    have hu' : u ∈ cs := hu
    obtain ⟨i, hi, rfl⟩ := List.mem_iff_getElem.1 hu'
    obtain ⟨c, g1, g2⟩ := CAt_cell s 0 i h1 (by omega) (by omega)
    rw [List.getElem?_eq_getElem hi] at g1
    cases g1
    exact g2

theorem CAt_unshift {n : Nat} {g : Nat → Option Value} (d : Nat) : ∀ (vs : List AV) (off : Nat), CAt ρ n (fun j => g (d + j)) vs off → CAt ρ n g vs (off + d)
  | [], off, hv => by simp only [CAt]
  | v :: vs, off, hv => by
    by_cases hi : ∃ k m xs, v = .ints k m xs
    · obtain ⟨k, m, xs, rfl⟩ := hi
      simp only [CAt] at hv ⊢
      refine ⟨⟨hv.1.1, fun j hj => ?_⟩, ?_⟩
      · have := hv.1.2 j hj
        rwa [show d + (off + j) = off + d + j by omega] at this
      · have := CAt_unshift d vs (off + m) hv.2
        rwa [show off + m + d = off + d + m by omega] at this
    · have hv' : ∀ k m xs, v ≠ .ints k m xs := fun k m xs e => hi ⟨k, m, xs, e⟩
      rw [CAt_cons hv'] at hv ⊢
      obtain ⟨⟨c, h1, h2⟩, h3⟩ := hv
      refine ⟨⟨c, by rwa [show d + off = off + d by omega] at h1, h2⟩, ?_⟩
      have := CAt_unshift d vs (off + 1) h3
      rwa [show off + 1 + d = off + d + 1 by omega] at this

/-- cells put into the midst of others -/
theorem CAt_put {n : Nat} {f g : Nat → Option Value} {h : Nat → Option Value} {a m c new : List AV} {off : Nat} (hc : CAt ρ n f (a ++ m ++ c) 0) (ha : asz a = off) (hm : asz m = asz new)
    (hn : CAt ρ n h new 0) (hg1 : ∀ j, j < off ∨ off + asz new ≤ j → g j = f j) (hg2 : ∀ j, j < asz new → g (off + j) = h j) : CAt ρ n g (a ++ new ++ c) 0 := by
  rw [CAt_append, CAt_append] at hc ⊢
  simp only [Nat.zero_add, asz_append] at hc ⊢
  refine ⟨⟨?_, ?_⟩, ?_⟩
  · exact CAt_congr a 0 (fun j _ h2 => hg1 j (by omega)) hc.1.1
  · have : CAt ρ n (fun j => g (off + j)) new 0 := CAt_congr new 0 (fun j _ h2 => hg2 j (by omega)) hn
    rw [ha]
    have := CAt_unshift (g := g) off new 0 this
    simpa using this
  · rw [← hm]
    refine CAt_congr c _ (fun j h1 _ => hg1 j (by omega)) hc.2

theorem store_in {i : TI} {n : Nat} {f : Nat → Option Value} {off j : Nat} {vs : List AV} {v : AV} {cv : Value} {K : List AV → Prop} (hc : CAt ρ n f vs 0) (hv : VR ρ n v cv)
    (hk : evStoreIn i vs off j v K) : ∃ vs', K vs' ∧ asz vs' = asz vs ∧ cv.cells.size = i.sz ∧ (∀ u ∈ cv.cells.toList, u.oneCell' = true) ∧ off + j + i.sz ≤ asz vs ∧
      ∀ g : Nat → Option Value, (∀ q, q < off + j ∨ off + j + i.sz ≤ q → g q = f q) → (∀ q, q < i.sz → g (off + j + q) = cv.cells.toList[q]?) → CAt ρ n g vs' 0 := by
  unfold evStoreIn at hk
  split at hk
  · split at hk
    case h_2 => exact hk.elim
    rename_i hj
    have hj' : j = 0 := Nat.eq_of_beq_eq_true hj
    subst hj'
    split at hk
    case h_2 => exact hk.elim
    rename_i s
    split at hk
    case h_2 => exact hk.elim
    rename_i hsz
    have hsz' : asz s = i.sz := Nat.eq_of_beq_eq_true hsz
    obtain ⟨a, m, c, h1, h2, h3, h4⟩ := putSegsK_sound hk
    subst h1
    obtain ⟨g1, g2, g3⟩ := CAt_of_cells hv (.inr ⟨s, rfl⟩)
    simp only [AV.segs] at g1 g2
    refine ⟨_, h4, by simp only [asz_append]; omega, by rw [← hsz', ← g1]; simp, g3, by simp only [asz_append]; omega, fun g q1 q2 => ?_⟩
    refine CAt_put (f := f) (h := fun i => cv.cells.toList[i]?) hc h2 h3 g2 (fun q hq => q1 q (by omega)) (fun q hq => ?_)
    have := q2 q (by omega)
    simpa using this
  · split at hk
    case h_2 => exact hk.elim
    rename_i hsz
    have hsz' : i.sz = 1 := Nat.eq_of_beq_eq_true hsz
    obtain ⟨a, u, c, h1, h2, h3⟩ := storeSegK_sound hk
    subst h1
    rcases h3 with ⟨k, m, xs, y, rfl, rfl, hj, hK⟩ | ⟨hu, hcell, rfl, hK⟩
    · simp only [VR] at hv
      subst hv
      refine ⟨_, hK, by simp [asz_append, asz, AV.sz], by rw [hsz']; rfl, by simp [Value.cells, Value.oneCell'], by simp only [asz_append, asz, AV.sz]; omega, fun g q1 q2 => ?_⟩
      rw [CAt_append] at hc ⊢
      simp only [CAt, Nat.zero_add, h2] at hc ⊢
      obtain ⟨c1, ⟨c2, c3⟩, c4⟩ := hc
      refine ⟨CAt_congr a 0 (fun q _ hq => q1 q (by omega)) c1, ⟨by simpa using c2, fun q hq => ?_⟩, CAt_congr c _ (fun q hq _ => q1 q (by omega)) c4⟩
      by_cases e : q = j
      · subst e
        have := q2 0 (by omega)
        simp only [Nat.add_zero, Value.cells] at this
        rw [this]
        simp [List.getD, List.getElem?_set_self (show q < xs.length by omega)]
      · rw [q1 _ (by omega), c3 q hq]
        simp [List.getD, List.getElem?_set_ne (fun h => e h.symm)]
    · obtain ⟨g1, g2, g3⟩ := CAt_of_cells hv (.inl hcell)
      have hseg : v.segs = [v] := by cases v <;> first | rfl | simp [AV.isCell] at hcell
      rw [hseg] at g1 g2
      have hs1 : asz [v] = 1 := by simp [asz, AV.sz_one (isCell_not_ints hcell)]
      rw [hs1] at g1
      refine ⟨_, hK, by simp [asz_append, asz, AV.sz_one (isCell_not_ints hcell), AV.sz_one hu], by rw [hsz']; simpa using g1, g3, by simp only [asz_append, asz, AV.sz_one hu]; omega, fun g q1 q2 => ?_⟩
      have hc' : CAt ρ n f (a ++ [u] ++ c) 0 := by simpa using hc
      have := CAt_put (ρ := ρ) (n := n) (f := f) (g := g) (h := fun i => cv.cells.toList[i]?) (new := [v]) hc' h2 (by rw [hs1]; simp [asz, AV.sz_one hu]) g2 (fun q hq => q1 q (by rw [hs1] at hq; omega)) (fun q hq => by
        have := q2 q (by rw [hs1] at hq; omega)
        simpa using this)
      simpa using this

include hT in
theorem run_storeVar_in {t : TypeId} {i : TI} {b o : Nat} {cells : Array Value} {ty : TypeId} {fz : Nat × Nat} {cv : Value} (ht : T t = some i) (h : w.heap[b]? = some (.cells cells ty fz))
    (hf : fz.1 = fz.2 ∨ cells.size ≤ fz.1) (hn : o + i.sz ≤ cells.size) (hsz : cv.cells.size = i.sz) (h1 : ∀ u ∈ cv.cells.toList, u.oneCell' = true) :
    (storeVar t ⟨b, o, none⟩ cv).run P w = .ok () (w.setCells b o cv.cells.toList) := by
  simp only [storeVar, Sem.run_bind, hT.size ht w, Result.andThen_ok]
  rw [if_neg (by simp [hsz])]
  exact store_cells h hf (by simpa [hsz] using hn) h1

include hT hs in
theorem evStore_sound {t : TypeId} {a v : AV} {ca cv : Value} {K : Hp → Prop} (ha : VR ρ hp.length a ca) (hv : VR ρ hp.length v cv) (h : evStore T hp t a v K) :
    ∃ hp' w', K hp' ∧ (Instr.storeAt t ca cv).run P w = .ok () w' ∧ HSat w0 ρ hp' w' ∧ hp'.length = hp.length := by
  unfold evStore at h
  split at h
  case h_2 => exact h.elim
  rename_i b x off j
  simp only [VR] at ha
  obtain ⟨hb, rfl⟩ := ha
  simp only [Instr.storeAt, Instr.sureAddr, Sem.run_bind, Sem.run_pure, Result.andThen_ok]
  split at h
  case h_2 => exact h.elim
  rename_i i ht
  obtain ⟨e, he, hK⟩ := entK_sound h
  clear h
  have hob := hs.obj b e he
  have hez := hs.esz b e he
  split at hK
  case h_2 => exact hK.elim
  rename_i hro
  rw [hro] at hob
  cases heo : e.o with
  | gone => rw [heo] at hK; exact hK.elim
  | map _ _ _ _ => rw [heo] at hK; exact hK.elim
  | iter _ _ _ _ => rw [heo] at hK; exact hK.elim
  | ints k xs =>
    rw [heo] at hK hob
    simp only at hK
    split at hK
    case h_2 => exact hK.elim
    rename_i h1 h2 h3 h4
    have h2' : i.sz = 1 := Nat.eq_of_beq_eq_true h2
    have h3' : off = 0 := Nat.eq_of_beq_eq_true h3
    have h4' : j = 0 := Nat.eq_of_beq_eq_true h4
    subst h3' h4'
    split at hK
    case h_2 => exact hK.elim
    rename_i k' y
    split at hK
    case h_2 => exact hK.elim
    rename_i hk
    have hk' : k = k' := of_decide_eq_true hk
    subst hk'
    obtain ⟨hx, hK⟩ := hK
    obtain ⟨hlt, hK⟩ := setObjK_sound hK
    simp only [ObjOk] at hob
    obtain ⟨q1, cells, ty, fz, q2, q3, q4, q5, q6⟩ := hob (lv_ints hx)
    simp only [VR] at hv
    subst hv
    have hrun := run_storeVar_in (P := P) hT (o := (ρ b).base + x) (cv := .int k y) ht q2 (q4 trivial) (by omega) (by rw [h2']; rfl) (by simp [Value.cells, Value.oneCell'])
    obtain ⟨cells', g1, g2, g3, g4, g5, g6, g7, g8, g9, g10⟩ := setCells_facts [.int k y] (ρ b).blk ((ρ b).base + x) w cells ty fz q2 (by simp; omega)
    refine ⟨_, w.setCells (ρ b).blk ((ρ b).base + x) [.int k y], hK, ?_, ?_, by simp [dropV_length]⟩
    · rw [q1]; simpa [Value.cells] using hrun
    · refine hs.set he hro (by rw [heo]; exact lv_ints hx) _ g5 g6 g7 g8 g9 ?_
      simp only [ObjOk]
      refine fun _ => ⟨q1, cells', ty, fz, by simpa [Value.cells] using g1, by omega, fun _ => by rw [g2]; exact q4 trivial, by simp; omega, fun q hq => ?_⟩
      simp only [List.length_set] at hq
      by_cases e' : q = x
      · subst e'
        have := g4 0 (by simp)
        simp only [Nat.add_zero] at this
        rw [this]
        simp [List.getD, List.getElem?_set_self hq]
      · rw [g3 _ (by simp; omega), q6 q hq]
        simp [List.getD, List.getElem?_set_ne (fun h => e' h.symm)]
  | var vs =>
    rw [heo] at hK hob
    simp only at hK
    split at hK
    case h_2 => exact hK.elim
    rename_i hx
    have hx' : x = 0 := Nat.eq_of_beq_eq_true hx
    subst hx'
    simp only [ObjOk] at hob
    obtain ⟨cells, ty, fz, q2, q3, q4, q5, q6, q7⟩ := hob
    obtain ⟨vs', hK, r1, r2, r3, r4, r5⟩ := store_in q7 hv hK
    obtain ⟨hlt, hK⟩ := setObjK_sound hK
    have hrun := run_storeVar_in (P := P) hT (o := (ρ b).base + off + j) (cv := cv) ht q2 (q4 trivial) (by omega) r2 r3
    obtain ⟨cells', g1, g2, g3, g4, g5, g6, g7, g8, g9, g10⟩ := setCells_facts cv.cells.toList (ρ b).blk ((ρ b).base + off + j) w cells ty fz q2 (by simp [r2]; omega)
    refine ⟨_, w.setCells (ρ b).blk ((ρ b).base + off + j) cv.cells.toList, hK, ?_, ?_, by simp [dropV_length]⟩
    · simpa using hrun
    · refine hs.set he hro (by rw [heo]; rfl) _ g5 g6 g7 g8 g9 ?_
      simp only [ObjOk]
      refine ⟨cells', ty, fz, g1, by omega, fun _ => by rw [g2]; exact q4 trivial, by omega, by omega, ?_⟩
      refine r5 _ (fun q hq => ?_) (fun q hq => ?_)
      · rw [g3 _ (by simp [r2]; omega)]
      · rw [← g4 q (by simp [r2]; omega)]; congr 1; omega
  | row els =>
    rw [heo] at hK hob
    simp only at hK
    split at hK
    case h_2 => exact hK.elim
    rename_i vs hvs
    simp only [ObjOk] at hob
    obtain ⟨cells, ty, fz, q2, q3, q4, q5, q6⟩ := hob (lv_row (lt_of_ix hvs))
    obtain ⟨q7, q8⟩ := q6 x vs hvs
    have hlt : x < els.length := by
      rcases Nat.lt_or_ge x els.length with g | g
      · exact g
      · rw [List.getElem?_eq_none g] at hvs; cases hvs
    have hmul : (x + 1) * (ρ b).esz ≤ els.length * (ρ b).esz := Nat.mul_le_mul_right _ hlt
    rw [Nat.add_mul, Nat.one_mul] at hmul
    obtain ⟨vs', hK, r1, r2, r3, r4, r5⟩ := store_in q8 hv hK
    obtain ⟨_, hK⟩ := setObjK_sound hK
    have hrun := run_storeVar_in (P := P) hT (o := (ρ b).base + x * (ρ b).esz + off + j) (cv := cv) ht q2 (q4 trivial) (by omega) r2 r3
    obtain ⟨cells', g1, g2, g3, g4, g5, g6, g7, g8, g9, g10⟩ := setCells_facts cv.cells.toList (ρ b).blk ((ρ b).base + x * (ρ b).esz + off + j) w cells ty fz q2 (by simp [r2]; omega)
    refine ⟨_, w.setCells (ρ b).blk ((ρ b).base + x * (ρ b).esz + off + j) cv.cells.toList, hK, hrun, ?_, by simp [dropV_length]⟩
    refine hs.set he hro (by rw [heo]; exact lv_row hlt) _ g5 g6 g7 g8 g9 ?_
    simp only [ObjOk]
    refine fun _ => ⟨cells', ty, fz, g1, by omega, fun _ => by rw [g2]; exact q4 trivial, by simp; omega, fun y z hz => ?_⟩
    by_cases e' : y = x
    · subst e'
      rw [List.getElem?_set_self hlt] at hz
      cases hz
      refine ⟨by omega, ?_⟩
      refine r5 _ (fun q hq => ?_) (fun q hq => ?_)
      · rw [g3 _ (by simp [r2]; omega)]
      · rw [← g4 q (by simp [r2]; omega)]; congr 1; omega
    · rw [List.getElem?_set_ne (fun h => e' h.symm)] at hz
      obtain ⟨p1, p2⟩ := q6 y z hz
      refine ⟨p1, CAt_congr z 0 (fun q _ hq => ?_) p2⟩
      have hy : y < els.length := by
        rcases Nat.lt_or_ge y els.length with g | g
        · exact g
        · rw [List.getElem?_eq_none g] at hz; cases hz
      refine g3 _ ?_
      simp only [Array.length_toList, r2]
      rcases Nat.lt_or_ge y x with hyx | hyx
      · have : (y + 1) * (ρ b).esz ≤ x * (ρ b).esz := Nat.mul_le_mul_right _ hyx
        rw [Nat.add_mul, Nat.one_mul] at this
        omega
      · have : (x + 1) * (ρ b).esz ≤ y * (ρ b).esz := Nat.mul_le_mul_right _ (by omega)
        rw [Nat.add_mul, Nat.one_mul] at this
        omega
end
end Go.Aw
end

section
/-
  AwF: operations that touch no memory. Own work of this session.
-/
set_option linter.unusedVariables false
set_option linter.unusedSimpArgs false
namespace Go.Aw

theorem ext_get (xs : Array Value) (off len j : Nat) (h : off + len ≤ xs.size) (hj : j < len) : (xs.extract off (off + len))[j]? = xs[off + j]? := by
  rw [Array.getElem?_extract_of_lt (by omega), Array.getElem?_eq_getElem (by omega)]

/-- are some cells, held against as many others, the same? -/
def eqb : List AV → List AV → Option Bool
  | [], [] => some true
  | v :: vs, u :: us => (match v, u with
    | .int k a, .int k' b => if k = k' then (eqb vs us).map fun r => (a == b) && r else none
    | .bool a, .bool b => (eqb vs us).map fun r => (a == b) && r
    | .str a, .str b => (eqb vs us).map fun r => (a == b) && r
    | .ints k n a, .ints k' n' b => if k = k' ∧ n = n' then (eqb vs us).map fun r => (a == b) && r else none
    | _, _ => none)
  | _, _ => none

theorem eqsK_sound : ∀ {a b : List AV} {K : Bool → Prop}, eqsK a b K → ∃ r, eqb a b = some r ∧ K r
  | [], [], K, h => ⟨true, rfl, h⟩
  | [], _ :: _, K, h => h.elim
  | _ :: _, [], K, h => h.elim
  | v :: vs, u :: us, K, h => by
    simp only [eqsK] at h
    split at h
    · split at h
      · rename_i hk
        obtain ⟨r, h1, h2⟩ := eqsK_sound h
        exact ⟨_, by simp [eqb, of_decide_eq_true hk, h1], h2⟩
      · exact h.elim
    · obtain ⟨r, h1, h2⟩ := eqsK_sound h
      exact ⟨_, by simp [eqb, h1], h2⟩
    · obtain ⟨r, h1, h2⟩ := eqsK_sound h
      exact ⟨_, by simp [eqb, h1], h2⟩
    · split at h
      · rename_i hk hn
        obtain ⟨r, h1, h2⟩ := eqsK_sound h
        exact ⟨_, by simp [eqb, of_decide_eq_true hk, Nat.eq_of_beq_eq_true hn, h1], h2⟩
      · exact h.elim
    · exact h.elim

section
variable {P : Program} {T : Tab} (hT : TOk P T) {w : World} {ρ : Nat → Loc} {n : Nat}

/-- what '==' says of a part of each of two rows of cells -/
def EqHere (P : Program) (T : Tab) (w : World) (ρ : Nat → Loc) (n : Nat) (D : Nat) (t : TypeId) (c c' : List AV) : Prop :=
  ∀ (xs ys : Array Value) (off : Nat) (r : Bool), CAt ρ n (fun i => xs[i]?) c off → CAt ρ n (fun i => ys[i]?) c' off → off + asz c ≤ xs.size → off + asz c' ≤ ys.size → eqb c c' = some r →
    ∃ x y, (part t xs off).run P w = .ok x w ∧ (part t ys off).run P w = .ok y w ∧ (Op.equalIn D t x y).run P w = .ok r w

theorem eqb_append : ∀ {a b c d : List AV} {r : Bool}, a.length = b.length → eqb (a ++ c) (b ++ d) = some r → ∃ r1 r2, eqb a b = some r1 ∧ eqb c d = some r2 ∧ r = (r1 && r2)
  | [], [], c, d, r, _, h => ⟨true, r, rfl, h, by simp⟩
  | [], _ :: _, c, d, r, hl, h => by simp at hl
  | _ :: _, [], c, d, r, hl, h => by simp at hl
  | v :: vs, u :: us, c, d, r, hl, h => by
    simp only [List.length_cons, Nat.add_right_cancel_iff] at hl
    simp only [List.cons_append, eqb] at h
    split at h
    · split at h
      · rename_i hk
        simp only [Option.map_eq_some_iff] at h
        obtain ⟨q, h1, rfl⟩ := h
        obtain ⟨r1, r2, g1, g2, rfl⟩ := eqb_append hl h1
        exact ⟨(_ == _) && r1, r2, by simp only [eqb, hk, and_self, if_true, g1, Option.map_some], g2, (Bool.and_assoc _ _ _).symm⟩
      · cases h
    · simp only [Option.map_eq_some_iff] at h
      obtain ⟨q, h1, rfl⟩ := h
      obtain ⟨r1, r2, g1, g2, rfl⟩ := eqb_append hl h1
      exact ⟨(_ == _) && r1, r2, by simp only [eqb, g1, Option.map_some], g2, (Bool.and_assoc _ _ _).symm⟩
    · simp only [Option.map_eq_some_iff] at h
      obtain ⟨q, h1, rfl⟩ := h
      obtain ⟨r1, r2, g1, g2, rfl⟩ := eqb_append hl h1
      exact ⟨(_ == _) && r1, r2, by simp only [eqb, g1, Option.map_some], g2, (Bool.and_assoc _ _ _).symm⟩
    · split at h
      · rename_i hk
        simp only [Option.map_eq_some_iff] at h
        obtain ⟨q, h1, rfl⟩ := h
        obtain ⟨r1, r2, g1, g2, rfl⟩ := eqb_append hl h1
        exact ⟨(_ == _) && r1, r2, by simp only [eqb, hk, and_self, if_true, g1, Option.map_some], g2, (Bool.and_assoc _ _ _).symm⟩
      · cases h
    · cases h

theorem all_range_int : ∀ (xs ys : List Int), xs.length = ys.length → ((List.range xs.length).all fun i => xs.getD i 0 == ys.getD i 0) = (xs == ys)
  | [], [], _ => rfl
  | x :: xs, y :: ys, h => by
    have ih := all_range_int xs ys (by simpa using h)
    rw [List.length_cons, List.range_succ_eq_map, List.all_cons, List.all_map]
    simp only [List.getD_cons_zero, Function.comp_def, List.getD_cons_succ, ih]
    simp [List.cons_beq_cons]
  | [], _ :: _, h => by simp at h
  | _ :: _, [], h => by simp at h

theorem run_eqItems_int (d : Nat) (e : TypeId) (k : IntKind) (xs ys : Array Value) (a b : List Int) (off : Nat) (hu : P.underlying e = some (.int k))
    (hx : ∀ j, j < a.length → xs[j]? = some (.int k (a.getD j 0))) (hy : ∀ j, j < a.length → ys[j]? = some (.int k (b.getD j 0))) : ∀ (is : List Nat), (∀ i ∈ is, i < a.length) →
    (Op.eqItems (d + 1) e 1 xs ys is).run P w = .ok (is.all fun i => a.getD i 0 == b.getD i 0) w
  | [], _ => by simp [Op.eqItems]
  | i :: is, h => by
    have px : (part e xs (i * 1)).run P w = .ok (.int k (a.getD i 0)) w := by
      simp [part, isAgg, run_underlying hu, hx i (h i (by simp))]
    have py : (part e ys (i * 1)).run P w = .ok (.int k (b.getD i 0)) w := by
      simp [part, isAgg, run_underlying hu, hy i (h i (by simp))]
    simp only [Op.eqItems, Sem.run_bind, px, py, run_equalIn_int w d e k k _ _ hu, Result.andThen_ok]
    cases hb : (a.getD i 0 == b.getD i 0) with
    | false => simp; intro hh; simp at hb; exact absurd hh hb
    | true =>
      have ih := run_eqItems_int d e k xs ys a b off hu hx hy is (fun i hi => h i (by simp [hi]))
      simp only [Bool.not_true, Bool.false_eq_true, if_false, ih, List.all_cons, hb, Bool.true_and]

include hT in
theorem fits_sound : ∀ (d : Nat) (t : TypeId) (s s' : List AV) (o o' : Nat) (r r' : List AV), fits T d t s = some (o, r) → fits T d t s' = some (o', r') →
    o = o' ∧ (∃ i, T t = some i ∧ i.sz = o) ∧ ∃ c c', s = c ++ r ∧ s' = c' ++ r' ∧ asz c = o ∧ asz c' = o ∧ c.length = c'.length ∧ ∀ D, EqHere P T w ρ n (D + d + 1) t c c'
  | 0, t, s, s', o, o', r, r', h, h' => by simp [fits] at h
  | d + 1, t, s, s', o, o', r, r', h, h' => by
    unfold fits at h h'
    cases ht : T t with
    | none => rw [ht] at h; cases h
    | some i =>
      rw [ht] at h h'
      simp only at h h'
      obtain ⟨info, dd, zv, p1, p2, p3, p4, p5, p6, p7, p8, p9, p10, p12, p11⟩ := hT.ok t i ht
      cases hd : i.d with
      | int k =>
        simp only [hd] at h h'
        have hu := hT.u_int (t := t) (k := k) (by simp [td, ht, hd])
        have hsz : i.sz = 1 := p9 (by rw [hd]; rfl)
        split at h
        case h_2 => cases h
        rename_i k1 x1 rr
        split at h
        case h_2 => cases h
        rename_i hk1
        split at h'
        case h_2 => cases h'
        rename_i k2 x2 rr2
        split at h'
        case h_2 => cases h'
        rename_i hk2
        cases h; cases h'
        refine ⟨rfl, ⟨i, rfl, hsz⟩, [.int k1 x1], [.int k2 x2], rfl, rfl, by simp [asz, AV.sz], by simp [asz, AV.sz], rfl, ?_⟩
        intro D xs ys off q c1 c2 l1 l2 he
        have e1 := of_decide_eq_true hk1
        have e2 := of_decide_eq_true hk2
        subst e1; subst e2
        simp only [CAt, VR] at c1 c2
        obtain ⟨⟨v1, g1, _, rfl⟩, _⟩ := c1
        obtain ⟨⟨v2, g2, _, rfl⟩, _⟩ := c2
        simp [eqb] at he
        refine ⟨_, _, by simp [part, isAgg, run_underlying hu, g1]; rfl, by simp [part, isAgg, run_underlying hu, g2]; rfl, ?_⟩
        rw [show D + (d + 1) + 1 = D + d + 1 + 1 from rfl, run_equalIn_int w _ t k k _ _ hu, ← he]
      | bool =>
        simp only [hd] at h h'
        have hu := hT.u_bool (t := t) (by simp [td, ht, hd])
        have hsz : i.sz = 1 := p9 (by rw [hd]; rfl)
        split at h
        case h_2 => cases h
        rename_i x1 rr
        split at h'
        case h_2 => cases h'
        rename_i x2 rr2
        cases h; cases h'
        refine ⟨rfl, ⟨i, rfl, hsz⟩, [.bool x1], [.bool x2], rfl, rfl, by simp [asz, AV.sz], by simp [asz, AV.sz], rfl, ?_⟩
        intro D xs ys off q c1 c2 l1 l2 he
        simp only [CAt, VR] at c1 c2
        obtain ⟨⟨v1, g1, _, rfl⟩, _⟩ := c1
        obtain ⟨⟨v2, g2, _, rfl⟩, _⟩ := c2
        simp [eqb] at he
        refine ⟨_, _, by simp [part, isAgg, run_underlying hu, g1]; rfl, by simp [part, isAgg, run_underlying hu, g2]; rfl, ?_⟩
        rw [show D + (d + 1) + 1 = D + d + 1 + 1 from rfl, run_equalIn_bool' w _ t _ _ hu, ← he]
      | str =>
        simp only [hd] at h h'
        have hu := hT.u_str (t := t) (by simp [td, ht, hd])
        have hsz : i.sz = 1 := p9 (by rw [hd]; rfl)
        split at h
        case h_2 => cases h
        rename_i x1 rr
        split at h'
        case h_2 => cases h'
        rename_i x2 rr2
        cases h; cases h'
        refine ⟨rfl, ⟨i, rfl, hsz⟩, [.str x1], [.str x2], rfl, rfl, by simp [asz, AV.sz], by simp [asz, AV.sz], rfl, ?_⟩
        intro D xs ys off q c1 c2 l1 l2 he
        simp only [CAt, VR] at c1 c2
        obtain ⟨⟨v1, g1, _, rfl⟩, _⟩ := c1
        obtain ⟨⟨v2, g2, _, rfl⟩, _⟩ := c2
        simp [eqb] at he
        refine ⟨_, _, by simp [part, isAgg, run_underlying hu, g1]; rfl, by simp [part, isAgg, run_underlying hu, g2]; rfl, ?_⟩
        rw [show D + (d + 1) + 1 = D + d + 1 + 1 from rfl, run_equalIn_string w _ t _ _ hu, ← he]
        simp
      | array m e =>
        simp only [hd] at h h'
        have hu := hT.u_array (t := t) (n := m) (e := e) (by simp [td, ht, hd])
        split at h
        case h_2 => cases h
        rename_i k k1 m1 xs1 rr he1 hq1
        split at h
        case h_2 => cases h
        rename_i hk1 hm1 hz1
        split at h'
        case h_2 => cases h'
        rename_i k' k2 m2 xs2 rr2 he2 hq2
        split at h'
        case h_2 => cases h'
        rename_i hk2 hm2 hz2
        cases h; cases h'
        rw [he1] at he2; cases he2
        have e1 := of_decide_eq_true hk1
        have e2 := of_decide_eq_true hk2
        have e3 := Nat.eq_of_beq_eq_true hm1
        have e4 := Nat.eq_of_beq_eq_true hm2
        have e5 := Nat.eq_of_beq_eq_true hz1
        subst e1; subst e2; subst e3; subst e4
        have hue := hT.u_int (t := e) (k := k) he1
        obtain ⟨ei, hei, hed⟩ := td_some he1 (by simp)
        obtain ⟨einfo, _, _, r1, r2, _, _, _, _, _, _, r9, _⟩ := hT.ok e ei hei
        have hesz : P.cellsOf e = 1 := by
          have : ei.sz = 1 := r9 (by rw [hed]; rfl)
          simp [Program.cellsOf, r1, r2, this]
        refine ⟨rfl, ⟨i, rfl, e5⟩, [.ints k m2 xs1], [.ints k m2 xs2], rfl, rfl, by simp [asz, AV.sz], by simp [asz, AV.sz], rfl, ?_⟩
        intro D xs ys off q c1 c2 l1 l2 he
        simp only [CAt, asz, AV.sz, Nat.add_zero] at c1 c2 l1 l2
        have hpart : ∀ (zs : Array Value) (off : Nat), (part t zs off).run P w = .ok (.agg (zs.extract off (off + m2))) w := by
          intro zs off
          simp only [part, Sem.run_bind, hT.agg ht w, hd, TD.agg, Result.andThen_ok, if_true, hT.size ht w, e5, Sem.run_pure]
        refine ⟨_, _, hpart xs off, hpart ys off, ?_⟩
        simp only [eqb, and_self, if_true, Option.map_some, Option.some.injEq, Bool.and_true] at he
        rw [show D + (d + 1) + 1 = D + d + 1 + 1 from rfl, run_equalIn_array w (D + d + 1) _ _ hu r1, hesz, ← he, ← all_range_int xs1 xs2 (c1.1.1.trans c2.1.1.symm), c1.1.1]
        refine run_eqItems_int (w := w) (D + d) e k _ _ xs1 xs2 off hue (fun j hj => ?_) (fun j hj => ?_) (List.range m2) (fun i hi => by rw [c1.1.1]; simpa using hi)
        · rw [c1.1.1] at hj
          rw [ext_get _ _ _ _ (by omega) (by omega)]
          exact c1.1.2 j hj
        · rw [c1.1.1] at hj
          rw [ext_get _ _ _ _ (by omega) (by omega)]
          exact c2.1.2 j hj
      | struct fs =>
        simp only [hd] at h h'
        split at h
        case h_2 => cases h
        rename_i heq
        split at h'
        case h_2 => cases h'
        split at h
        case h_2 => cases h
        rename_i q1 hf
        split at h
        case h_2 => cases h
        rename_i hz
        split at h'
        case h_2 => cases h'
        rename_i q2 hf'
        split at h'
        case h_2 => cases h'
        rename_i hz'
        cases h; cases h'
        have e5 := Nat.eq_of_beq_eq_true hz
        have e6 := Nat.eq_of_beq_eq_true hz'
        simp only at e5 e6
        obtain ⟨fields, hu, hfs⟩ := hT.u_struct (t := t) (fs := fs) (by simp [td, ht, hd])
        obtain ⟨g1, g2⟩ := p11 heq
        rw [hu] at p4; cases p4
        obtain ⟨g3, g4⟩ := g2 fields rfl
        have key : ∀ (fl : List Field) (o o1 o2 : Nat) (s s' r r' : List AV), fitsF (fits T d) (fl.map fun f => (f.offset, f.type)) o s = some (o1, r) → fitsF (fits T d) (fl.map fun f => (f.offset, f.type)) o s' = some (o2, r') →
            (∀ f ∈ fl, f.name ≠ "_") → o1 = o2 ∧ ∃ c c', s = c ++ r ∧ s' = c' ++ r' ∧ o + asz c = o1 ∧ o + asz c' = o1 ∧ c.length = c'.length ∧
            ∀ (D : Nat) (xs ys : Array Value) (r : Bool), CAt ρ n (fun i => xs[i]?) c o → CAt ρ n (fun i => ys[i]?) c' o → o + asz c ≤ xs.size → o + asz c' ≤ ys.size → eqb c c' = some r →
              (Op.eqFields (D + d + 1) xs ys fl).run P w = .ok r w := by
          intro fl
          induction fl with
          | nil =>
            intro o o1 o2 s s' r r' h h' _
            simp only [List.map_nil, fitsF] at h h'
            cases h; cases h'
            refine ⟨rfl, [], [], rfl, rfl, by simp [asz], by simp [asz], rfl, ?_⟩
            intro D xs ys r _ _ _ _ he
            simp [eqb] at he
            simp [Op.eqFields, he]
          | cons f fl ih =>
            intro o o1 o2 s s' r r' h h' hn
            simp only [List.map_cons, fitsF] at h h'
            split at h
            case h_2 => cases h
            rename_i ho
            split at h'
            case h_2 => cases h'
            have ho' := Nat.eq_of_beq_eq_true ho
            split at h
            case h_2 => cases h
            rename_i z1 hz1
            split at h'
            case h_2 => cases h'
            rename_i z2 hz2
            obtain ⟨b1, ⟨fi, b2, b2'⟩, c, c', b3, b4, b5, b6, b7, b8⟩ := fits_sound d f.type s s' z1.1 z2.1 z1.2 z2.2 (by rw [hz1]) (by rw [hz2])
            rw [← b1] at h'
            obtain ⟨a1, d1, d2, a2, a3, a4, a5, a6, a7⟩ := ih (o + z1.1) o1 o2 z1.2 z2.2 r r' h h' (fun f hf => hn f (by simp [hf]))
            refine ⟨a1, c ++ d1, c' ++ d2, by rw [b3, a2, List.append_assoc], by rw [b4, a3, List.append_assoc], by rw [asz_append]; omega, by rw [asz_append]; omega, by simp [b7, a6], ?_⟩
            intro D xs ys q c1 c2 l1 l2 he
            rw [CAt_append] at c1 c2
            rw [asz_append] at l1 l2
            obtain ⟨r1, r2, e1, e2, e3⟩ := eqb_append b7 he
            obtain ⟨x, y, x1, x2, x3⟩ := b8 D xs ys o r1 c1.1 c2.1 (by omega) (by omega) e1
            have hr := a7 D xs ys r2 (by rw [← b5]; exact c1.2) (by rw [← b6]; exact c2.2) (by omega) (by omega) e2
            rw [← ho'] at x1 x2
            simp only [Op.eqFields, hn f (by simp), ne_eq, not_false_eq_true, if_true, Sem.run_bind, x1, x2, x3, Result.andThen_ok]
            cases r1 with
            | false => simp [e3]
            | true => simpa [e3] using hr
        subst hfs
        obtain ⟨a1, c, c', a2, a3, a4, a5, a6, a7⟩ := key fields.toList 0 o o' s s' r r' hf hf' g4
        refine ⟨a1, ⟨i, rfl, e5⟩, c, c', a2, a3, by omega, by omega, a6, ?_⟩
        intro D xs ys off q c1 c2 l1 l2 he
        have hpart : ∀ (zs : Array Value) (off : Nat), (part t zs off).run P w = .ok (.agg (zs.extract off (off + o))) w := by
          intro zs off
          simp only [part, Sem.run_bind, hT.agg ht w, hd, TD.agg, Result.andThen_ok, if_true, hT.size ht w, e5, Sem.run_pure]
        refine ⟨_, _, hpart xs off, hpart ys off, ?_⟩
        have hff : P.fieldsOf t = fields := by simp [Program.fieldsOf, hu]
        rw [show D + (d + 1) + 1 = D + d + 1 + 1 from rfl, run_equalIn_agg w (D + d + 1) t _ _ (by rw [hff]; exact hu) g3, hff]
        refine a7 D _ _ q ?_ ?_ (by simp; omega) (by simp; omega) he
        · refine CAt_shift off c 0 (fun j hj => ?_) (by simpa using c1)
          simp only [Nat.zero_add]
          rw [ext_get _ _ _ _ (by omega) (by omega)]
        · refine CAt_shift off c' 0 (fun j hj => ?_) (by simpa using c2)
          simp only [Nat.zero_add]
          rw [ext_get _ _ _ _ (by omega) (by omega)]
      | _ => simp [hd] at h

/-! ### operators -/
theorem strLt_eq : ∀ (a b : List UInt8), strLt a b = Op.bytesLess a b
  | a, [] => by cases a <;> simp [strLt, Op.bytesLess]
  | [], b :: y => by simp [strLt, Op.bytesLess]
  | a :: x, b :: y => by simp [strLt, Op.bytesLess, strLt_eq x y]

theorem run_eqGuard_of_int (op : BinOp) (t : TypeId) (x y : Operand) (k : IntKind) (a : Int) (v : Value) : eqGuard op t x y (.int k a) v = pure () := by cases op <;> rfl

/-- the run of an operator with what stands ahead of it -/
def runBin (P : Program) (op : BinOp) (t : TypeId) (x y : Operand) (a b : Value) (w : World) : Result Value := (do eqGuard op t x y a b; binOp op t a b).run P w

include hT in
theorem evBin_sound {op : BinOp} {t : TypeId} {x y : Operand} {a b : AV} {ca cb : Value} {K : AV → Prop} (ha : VR ρ n a ca) (hb : VR ρ n b cb) (h : evBin T op t a b K) :
    ∃ v cv, K v ∧ runBin P op t x y ca cb w = .ok cv w ∧ VR ρ n v cv := by
  unfold evBin at h
  split at h
  · -- whole numbers
    rename_i k p
    split at h
    case h_2 => exact h.elim
    rename_i k' q
    simp only [VR] at ha hb
    subst ha; subst hb
    split at h
    · refine ⟨_, .int k (shlI k p q), h.2, ?_, by simp only [VR]⟩
      have : ¬ q < 0 := by omega
      simp [runBin, run_eqGuard_of_int, binOp, Op.shift, this, shlI]
    · refine ⟨_, .int k (shrI k p q), h.2, ?_, by simp only [VR]⟩
      have : ¬ q < 0 := by omega
      simp [runBin, run_eqGuard_of_int, binOp, Op.shift, this, shrI]
    · split at h
      case h_2 => exact h.elim
      rename_i hsl hsr _ hk
      have e := of_decide_eq_true hk
      subst e
      unfold evIntBin at h
      split at h
      · exact ⟨_, .int k (k.wrap (p + q)), h, by simp [runBin, run_eqGuard_of_int, binOp, Op.intArith], by simp only [VR]⟩
      · exact ⟨_, .int k (k.wrap (p - q)), h, by simp [runBin, run_eqGuard_of_int, binOp, Op.intArith], by simp only [VR]⟩
      · exact ⟨_, .int k (k.wrap (p * q)), h, by simp [runBin, run_eqGuard_of_int, binOp, Op.intArith], by simp only [VR]⟩
      · exact ⟨_, .int k (k.wrap (p.tdiv q)), h.2, by simp [runBin, run_eqGuard_of_int, binOp, Op.intDiv, h.1], by simp only [VR]⟩
      · exact ⟨_, .int k (p.tmod q), h.2, by simp [runBin, run_eqGuard_of_int, binOp, Op.intDiv, h.1], by simp only [VR]⟩
      · exact ⟨_, .int k (andI k p q), h, by simp [runBin, run_eqGuard_of_int, binOp, Op.intBits, andI], by simp only [VR]⟩
      · exact ⟨_, .int k (orI k p q), h, by simp [runBin, run_eqGuard_of_int, binOp, Op.intBits, orI], by simp only [VR]⟩
      · exact ⟨_, .int k (xorI k p q), h, by simp [runBin, run_eqGuard_of_int, binOp, Op.intBits, xorI], by simp only [VR]⟩
      · exact ⟨_, .bool (decide (p < q)), h, by simp [runBin, run_eqGuard_of_int, binOp, Op.intCmp], by simp only [VR]⟩
      · exact ⟨_, .bool (decide (p ≤ q)), h, by simp [runBin, run_eqGuard_of_int, binOp, Op.intCmp], by simp only [VR]⟩
      · exact ⟨_, .bool (decide (p > q)), h, by simp [runBin, run_eqGuard_of_int, binOp, Op.intCmp], by simp only [VR]⟩
      · exact ⟨_, .bool (decide (p ≥ q)), h, by simp [runBin, run_eqGuard_of_int, binOp, Op.intCmp], by simp only [VR]⟩
      · exact ⟨_, .bool (p == q), h, by simp [runBin, run_eqGuard_of_int, binOp, Op.intCmp], by simp only [VR]⟩
      · exact ⟨_, .bool (p != q), h, by simp [runBin, run_eqGuard_of_int, binOp, Op.intCmp], by simp only [VR]⟩
      · exact h.elim
  · -- strings
    rename_i p
    split at h
    case h_2 => exact h.elim
    rename_i q
    simp only [VR] at ha hb
    subst ha; subst hb
    split at h
    · refine ⟨_, .bool (p == q), h, ?_, by simp only [VR]⟩
      simp [runBin, eqGuard_at_string, binOp, Op.stringOp]
    · refine ⟨_, .bool (!(p == q)), h, ?_, by simp only [VR]⟩
      simp [runBin, eqGuard_at_string, binOp, Op.stringOp]
    · refine ⟨_, .bool (strLt p q), h, ?_, by simp only [VR]⟩
      simp [runBin, eqGuard_at_string, binOp, Op.stringOp, strLt_eq]
    · obtain ⟨h1, h2⟩ := h
      refine ⟨_, .string ⟨(p ++ q).toArray⟩, h2, ?_, by simp only [VR]⟩
      have e : ¬ ((((⟨p.toArray⟩ : ByteArray).size + (⟨q.toArray⟩ : ByteArray).size : Nat) : Int) > IntKind.i64.max) := by
        simp [ByteArray.size]; omega
      simp only [runBin, eqGuard_at_string, binOp, Op.stringOp, pure_bind, e, if_false, Sem.run_pure]
      congr 2
    · exact h.elim
  · -- bools
    rename_i p
    split at h
    case h_2 => exact h.elim
    rename_i q
    simp only [VR] at ha hb
    subst ha; subst hb
    split at h
    · rename_i ht
      refine ⟨_, .bool (p == q), h, ?_, by simp only [VR]⟩
      simp [runBin, eqGuard_at_bool, run_eql_bool _ t p q (hT.u_bool ht)]
    · rename_i ht
      refine ⟨_, .bool (!(p == q)), h, ?_, by simp only [VR]⟩
      simp [runBin, eqGuard_at_bool, run_neq_bool _ t p q (hT.u_bool ht)]
    · exact h.elim
  · -- structs and arrays
    rename_i p
    split at h
    case h_2 => exact h.elim
    rename_i q
    simp only [VR] at ha hb
    obtain ⟨cs, rfl, ca1, ca2⟩ := ha
    obtain ⟨ds, rfl, cb1, cb2⟩ := hb
    have main : ∀ (r : Bool), fitsAll T t p = true → fitsAll T t q = true → eqb p q = some r →
        (∀ op, (eqGuard op t x y (.agg cs.toArray) (.agg ds.toArray)).run P w = .ok () w) ∧ (Op.equalIn 10000 t (.agg cs.toArray) (.agg ds.toArray)).run P w = .ok r w := by
      intro r f1 f2 he
      unfold fitsAll at f1 f2
      split at f1
      case h_2 => cases f1
      rename_i i ht
      rw [ht] at f2
      simp only at f2
      split at f1
      case h_2 => cases f1
      rename_i o1 a1 a2 g1
      split at f2
      case h_2 => cases f2
      rename_i o2 a3 a4 g2
      obtain ⟨e1, ⟨i', e2, e2'⟩, c, c', e3, e4, e5, e6, e7, e8⟩ := fits_sound (P := P) (w := w) (ρ := ρ) (n := n) hT 8 t p q o1 o2 [] [] g1 g2
      rw [ht] at e2; cases e2
      rw [List.append_nil] at e3 e4
      subst e3; subst e4
      obtain ⟨x1, y1, q1, q2, q3⟩ := e8 9991 cs.toArray ds.toArray 0 r (by simpa using ca1) (by simpa using cb1) (by simp; omega) (by simp; omega) he
      obtain ⟨info, dd, zv, p1, p2, p3, p4, p5, p6, p7, p8, p9, p10, p12, p11⟩ := hT.ok t i ht
      have hpart : ∀ (zs : List Value), zs.length = i.sz → (part t zs.toArray 0).run P w = .ok (.agg zs.toArray) w := by
        intro zs hz
        simp only [part, Sem.run_bind, hT.agg ht w, a1, Result.andThen_ok, if_true, hT.size ht w, Sem.run_pure]
        congr 2
        apply Array.ext'
        simp [hz, List.take_of_length_le]
      rw [hpart cs (by omega)] at q1
      rw [hpart ds (by omega)] at q2
      cases q1; cases q2
      exact ⟨fun op => run_eqGuard_agg w op t x y _ _ (p11 a2).1, q3⟩
    split at h
    · rename_i f1 f2
      obtain ⟨r, he, hK⟩ := eqsK_sound h
      obtain ⟨m1, m2⟩ := main r f1 f2 he
      refine ⟨_, .bool r, hK, ?_, by simp only [VR]⟩
      simp [runBin, m1, run_eql_struct, m2]
    · rename_i f1 f2
      obtain ⟨r, he, hK⟩ := eqsK_sound h
      obtain ⟨m1, m2⟩ := main r f1 f2 he
      refine ⟨_, .bool (!r), hK, ?_, by simp only [VR]⟩
      simp [runBin, m1, run_neq_struct, m2]
    · exact h.elim
  · -- a slice against nil
    split at h
    case h_2 => exact h.elim
    simp only [VR] at ha hb
    obtain ⟨_, ad, c, rfl, hlc, _, had⟩ := ha
    obtain ⟨rfl, _⟩ := hb
    split at h
    · rename_i e ht
      obtain ⟨h0, h⟩ := h
      rcases had with rfl | ⟨rfl, _⟩
      · omega
      refine ⟨_, .bool false, h, ?_, by simp only [VR]⟩
      simp [runBin, eqGuard_at_slice, Lib.run_eql_slice_nil w t e _ _ _ 0 0 (hT.u_slice ht)]
    · rename_i e ht
      obtain ⟨h0, h⟩ := h
      rcases had with rfl | ⟨rfl, _⟩
      · omega
      refine ⟨_, .bool true, h, ?_, by simp only [VR]⟩
      simp [runBin, eqGuard_at_slice, run_neq_slice_nil w t e _ _ _ (hT.u_slice ht)]
    · exact h.elim
  · -- a pointer against nil
    split at h
    case h_2 => exact h.elim
    simp only [VR] at ha hb
    obtain ⟨_, rfl⟩ := ha
    obtain ⟨rfl, _⟩ := hb
    split at h
    · rename_i ht
      obtain ⟨e, hu⟩ := hT.u_ptr ht
      refine ⟨_, .bool false, h, ?_, by simp only [VR]⟩
      simp [runBin, eqGuard_at_pointer, run_eql_pointer_nil (P := P) w t _ (by simp [Program.pointee, hu])]
    · rename_i ht
      obtain ⟨e, hu⟩ := hT.u_ptr ht
      refine ⟨_, .bool true, h, ?_, by simp only [VR]⟩
      simp [runBin, eqGuard_at_pointer, run_neq_pointer_nil (P := P) w t _ (by simp [Program.pointee, hu])]
    · exact h.elim
  · -- two nil slices
    split at h
    case h_2 => exact h.elim
    simp only [VR] at ha hb
    obtain ⟨rfl, _⟩ := ha
    obtain ⟨rfl, _⟩ := hb
    split at h
    · rename_i e ht
      refine ⟨_, .bool true, h, ?_, by simp only [VR]⟩
      simp [runBin, eqGuard_at_slice, Lib.run_eql_slice_nil w t e _ _ _ 0 0 (hT.u_slice ht)]
    · rename_i e ht
      refine ⟨_, .bool false, h, ?_, by simp only [VR]⟩
      simp [runBin, eqGuard_at_slice, run_neq_slice_nil w t e _ _ _ (hT.u_slice ht)]
    · exact h.elim
  · -- two nil pointers
    split at h
    case h_2 => exact h.elim
    simp only [VR] at ha hb
    obtain ⟨rfl, _⟩ := ha
    obtain ⟨rfl, _⟩ := hb
    split at h
    · rename_i ht
      obtain ⟨e, hu⟩ := hT.u_ptr ht
      refine ⟨_, .bool true, h, ?_, by simp only [VR]⟩
      simp [runBin, eqGuard_at_pointer, run_eql_pointer_nil (P := P) w t _ (by simp [Program.pointee, hu])]
    · rename_i ht
      obtain ⟨e, hu⟩ := hT.u_ptr ht
      refine ⟨_, .bool false, h, ?_, by simp only [VR]⟩
      simp [runBin, eqGuard_at_pointer, run_neq_pointer_nil (P := P) w t _ (by simp [Program.pointee, hu])]
    · exact h.elim
  · exact h.elim

theorem evUn_sound {op : UnOp} {a : AV} {ca : Value} {K : AV → Prop} (ha : VR ρ n a ca) (h : evUn op a K) : ∃ v cv, K v ∧ (Op.unary op ca).run P w = .ok cv w ∧ VR ρ n v cv := by
  unfold evUn at h
  split at h
  · simp only [VR] at ha; subst ha
    rename_i k m
    exact ⟨_, .int k (k.wrap (0 - m)), h, by simp [Op.unary, Op.intArith], by simp only [VR]⟩
  · simp only [VR] at ha; subst ha
    rename_i b
    exact ⟨_, .bool (!b), h, by simp [Op.unary], by simp only [VR]⟩
  · exact h.elim

include hT in
theorem evFieldAddr_sound {s : TypeId} {a : AV} {ca : Value} {f : Nat} {K : AV → Prop} (ha : VR ρ n a ca) (h : evFieldAddr T s a f K) :
    ∃ v cv, K v ∧ (Instr.fieldAt s ca f).run P w = .ok cv w ∧ VR ρ n v cv := by
  unfold evFieldAddr at h
  split at h
  case h_2 => exact h.elim
  rename_i b e off j
  split at h
  case h_2 => exact h.elim
  rename_i fs ht
  split at h
  case h_2 => exact h.elim
  rename_i o hf hj
  have hj' := Nat.eq_of_beq_eq_true hj
  subst hj'
  split at h
  case h_2 => exact h.elim
  rename_i fi hfi
  split at h
  case h_2 => exact h.elim
  rename_i hsz
  have hsz' := Nat.le_of_ble_eq_true hsz
  obtain ⟨fields, hu, rfl⟩ := hT.u_struct ht
  simp only [VR] at ha
  obtain ⟨hb, rfl⟩ := ha
  simp only [List.getElem?_map, Option.map_eq_some_iff] at hf
  obtain ⟨fd, hfd, rfl⟩ := hf
  have hfd' : fields[f]? = some fd := by simpa using hfd
  refine ⟨_, .pointer (some ⟨(ρ b).blk, (ρ b).base + e * (ρ b).esz + (off + fd.offset) + 0, none⟩), h, ?_, by simp only [VR]; exact ⟨hb, trivial⟩⟩
  have hz : ¬ fi.sz = 0 := by omega
  simp [Instr.fieldAt, run_underlying hu, hfd', Instr.sureAddr, fieldPlace, hT.size hfi w, hz, addr_add, Nat.add_assoc]

include hT in
theorem evField_sound {s : TypeId} {a : AV} {ca : Value} {f : Nat} {K : AV → Prop} (ha : VR ρ n a ca) (h : evField T s a f K) :
    ∃ v cv, K v ∧ (Instr.field s ca f).run P w = .ok cv w ∧ VR ρ n v cv := by
  unfold evField at h
  split at h
  case h_2 => exact h.elim
  rename_i segs
  split at h
  case h_2 => exact h.elim
  rename_i fs ht
  split at h
  case h_2 => exact h.elim
  rename_i o hf
  split at h
  case h_2 => exact h.elim
  rename_i fi hfi
  obtain ⟨fields, hu, rfl⟩ := hT.u_struct ht
  simp only [List.getElem?_map, Option.map_eq_some_iff] at hf
  obtain ⟨fd, hfd, rfl⟩ := hf
  have hfd' : fields[f]? = some fd := by simpa using hfd
  simp only [VR] at ha
  obtain ⟨cs, rfl, h1, h2⟩ := ha
  have hrun : ∀ cv, (part fd.type cs.toArray fd.offset).run P w = .ok cv w → (Instr.field s (.agg cs.toArray) f).run P w = .ok cv w := by
    intro cv hcv
    simp [Instr.field, run_underlying hu, hfd', asAgg, hcv]
  cases hag : fi.d.agg with
  | true =>
    simp only [hag] at h
    obtain ⟨a, r, g1, g2, g3⟩ := dropK_sound h
    obtain ⟨s', c, g4, g5, g6⟩ := takeK_sound g3
    subst g1; subst g4
    rw [CAt_append, CAt_append] at h1
    simp only [asz_append] at h2
    refine ⟨_, .agg (cs.toArray.extract fd.offset (fd.offset + fi.sz)), g6, hrun _ ?_, ?_⟩
    · simp only [part, Sem.run_bind, hT.agg hfi w, hag, Result.andThen_ok, if_true, hT.size hfi w, Sem.run_pure]
    · simp only [VR]
      refine ⟨(cs.drop fd.offset).take fi.sz, ?_, ?_, ?_⟩
      · congr 1
        apply Array.ext'
        simp [List.extract_eq_take_drop]
      · refine CAt_shift fd.offset s' 0 (fun j hj => ?_) (by rw [← g2]; simpa using h1.2.1)
        simp only [Nat.zero_add]
        rw [List.getElem?_take_of_lt (by omega), List.getElem?_drop]
      · simp; omega
  | false =>
    simp only [hag] at h
    obtain ⟨a, v, c, g1, g2, g3⟩ := loadSegK_sound h
    subst g1
    rw [CAt_append] at h1
    have hpart : ∀ cv, cs[fd.offset]? = some cv → (part fd.type cs.toArray fd.offset).run P w = .ok cv w := by
      intro cv hcv
      simp [part, hT.agg hfi w, hag, hcv]
    rcases g3 with ⟨k, m, xs, rfl, hj, hK⟩ | ⟨hv, _, hK⟩
    · simp only [CAt, Nat.zero_add] at h1
      have := h1.2.1.2 0 hj
      rw [g2] at this
      exact ⟨_, .int k (xs.getD 0 0), hK, hrun _ (hpart _ (by simpa using this)), by simp only [VR]⟩
    · rw [CAt_cons (isCell_not_ints hv)] at h1
      obtain ⟨cv, q1, q2, q3⟩ := h1.2.1
      simp only [Nat.zero_add] at q1
      rw [g2] at q1
      exact ⟨v, cv, hK, hrun _ (hpart _ q1), q3⟩
end
end Go.Aw
end

section
/-
  AwG: places in arrays and slices, conversions, literals of structs and arrays. Own work of this session.
-/
set_option linter.unusedVariables false
set_option linter.unusedSimpArgs false
namespace Go.Aw
section
variable {P : Program} {T : Tab} (hT : TOk P T) {w0 : Base} {w : World} {ρ : Nat → Loc} {hp : Hp} (hs : HSat w0 ρ hp w)

include hT hs in
theorem evIndexAddr_sound {t : TypeId} {a i : AV} {ca ci : Value} {K : AV → Prop} (ha : VR ρ hp.length a ca) (hi : VR ρ hp.length i ci) (h : evIndexAddr T hp t a i K) :
    ∃ v cv, K v ∧ (Instr.indexAt t ca ci).run P w = .ok cv w ∧ VR ρ hp.length v cv := by
  unfold evIndexAddr at h
  split at h
  case h_2 => exact h.elim
  rename_i kq q
  simp only [VR] at hi
  subst hi
  split at h
  · rename_i b e off j
    split at h
    case h_2 => exact h.elim
    rename_i n el ht
    split at h
    case h_2 => exact h.elim
    rename_i ei hei
    split at h
    case h_2 => exact h.elim
    rename_i h1 h2
    have h1' := Nat.eq_of_beq_eq_true h1
    have h2' := Nat.eq_of_beq_eq_true h2
    subst h2'
    obtain ⟨q0, q1, hK⟩ := h
    simp only [VR] at ha
    obtain ⟨hb, rfl⟩ := ha
    split at hK
    · rename_i hr
      unfold rowOne at hr
      split at hr
      case h_2 => cases hr
      rename_i en hen
      split at hr
      case h_2 => cases hr
      rw [Bool.and_eq_true] at hr
      have r1 := Nat.eq_of_beq_eq_true hr.1
      have r2 := Nat.eq_of_beq_eq_true hr.2
      subst r2
      have hez := hs.esz b en hen
      refine ⟨_, .pointer (some ⟨(ρ b).blk, (ρ b).base + (e + q.toNat) * (ρ b).esz + 0 + 0, none⟩), hK, ?_, by simp only [VR]; exact ⟨hb, trivial⟩⟩
      simp [Instr.indexAt, asIntOf, run_underlying (hT.u_array ht), Instr.sureAddr, q0, q1, hT.size hei w, h1', addr_add, hez, r1, Nat.add_mul, Nat.add_assoc]
    · refine ⟨_, .pointer (some ⟨(ρ b).blk, (ρ b).base + e * (ρ b).esz + off + q.toNat, none⟩), hK, ?_, by simp only [VR]; exact ⟨hb, trivial⟩⟩
      simp [Instr.indexAt, asIntOf, run_underlying (hT.u_array ht), Instr.sureAddr, q0, q1, hT.size hei w, h1', addr_add]
  · rename_i b off len cap
    split at h
    case h_2 => exact h.elim
    rename_i el ht
    split at h
    case h_2 => exact h.elim
    rename_i ei hei
    obtain ⟨en, hen, h⟩ := entK_sound h
    split at h
    case h_2 => exact h.elim
    rename_i hz
    have hz' := Nat.eq_of_beq_eq_true hz
    obtain ⟨q0, q1, hK⟩ := h
    simp only [VR] at ha
    obtain ⟨hb, ad, c, rfl, hlc, _, had⟩ := ha
    rcases had with rfl | ⟨rfl, _⟩
    · omega
    have hez := hs.esz b en hen
    refine ⟨_, .pointer (some ⟨(ρ b).blk, (ρ b).base + (off + q.toNat) * (ρ b).esz + 0 + 0, none⟩), hK, ?_, by simp only [VR]; exact ⟨hb, trivial⟩⟩
    simp [Instr.indexAt, asIntOf, run_underlying (hT.u_slice ht), q0, q1, hT.size hei w, hz', hez, addr_add, Nat.add_mul, Nat.add_assoc]
  · exact h.elim

include hT in
theorem evIndex_sound {n : Nat} {t : TypeId} {a i : AV} {ca ci : Value} {K : AV → Prop} (ha : VR ρ n a ca) (hi : VR ρ n i ci) (h : evIndex T t a i K) :
    ∃ v cv, K v ∧ (Instr.index t ca ci).run P w = .ok cv w ∧ VR ρ n v cv := by
  unfold evIndex at h
  split at h
  case h_2 => exact h.elim
  rename_i kq q
  simp only [VR] at hi
  subst hi
  split at h
  · rename_i l
    split at h
    case h_2 => exact h.elim
    rename_i ht
    obtain ⟨q0, q1, hK⟩ := h
    simp only [VR] at ha
    subst ha
    refine ⟨_, .int .u8 ((l.getD q.toNat 0).toNat : Int), hK, ?_, by simp only [VR]⟩
    have hlt : q.toNat < l.length := by omega
    have hg : (⟨l.toArray⟩ : ByteArray)[q.toNat]? = some (l.getD q.toNat 0) := by
      rw [getElem?_pos (⟨l.toArray⟩ : ByteArray) q.toNat (by simpa [ByteArray.size] using hlt)]
      simp [ByteArray.getElem_eq_getElem_data, List.getD, List.getElem?_eq_getElem hlt]
    simp [Instr.index, asIntOf, run_underlying (hT.u_str ht), q0, hg]
  · rename_i k m xs
    split at h
    case h_2 => exact h.elim
    rename_i m' el ht
    split at h
    case h_2 => exact h.elim
    rename_i ei hei
    split at h
    case h_2 => exact h.elim
    rename_i h1 h2 h3
    have h1' := Nat.eq_of_beq_eq_true h1
    have h3' := Nat.eq_of_beq_eq_true h3
    subst h3'
    obtain ⟨q0, q1, hK⟩ := h
    simp only [VR] at ha
    obtain ⟨cs, rfl, c1, c2⟩ := ha
    simp only [CAt, Nat.zero_add] at c1
    have hg := c1.1.2 q.toNat (by omega)
    refine ⟨_, .int k (xs.getD q.toNat 0), hK, ?_, by simp only [VR]⟩
    simp [Instr.index, asIntOf, run_underlying (hT.u_array ht), q0, q1, hT.size hei w, h1', part, hT.agg hei w, h2]
    rw [hg]; simp
  · exact h.elim

/-- the whole numbers that a slice (or a string) holds, cell by cell, read out of the world -/
theorem intsOf_sound {k : IntKind} {x : AV} {cx : Value} {K : List Int → Prop} (hs : HSat w0 ρ hp w) (hx : VR ρ hp.length x cx) (h : intsOf hp k x K) :
    ∃ xs, K xs ∧ ((cx = .slice none 0 0 ∧ xs = []) ∨ (∃ l : List UInt8, cx = .string ⟨l.toArray⟩ ∧ k = .u8 ∧ xs = bytesOfStr l) ∨
      (∃ ad c, cx = .slice (some ad) xs.length c ∧ ∀ j v, (xs.map (Value.int k))[j]? = some v → w.cell? (ad.add j) = some v)) := by
  unfold intsOf at h
  split at h
  · simp only [VR] at hx
    exact ⟨[], h, .inl ⟨hx.1, rfl⟩⟩
  · rename_i l
    split at h
    · simp only [VR] at hx
      exact ⟨_, h, .inr (.inl ⟨l, hx, rfl, rfl⟩)⟩
    · exact h.elim
  · rename_i b off len cap
    obtain ⟨e, he, h⟩ := entK_sound h
    split at h
    case h_2 => exact h.elim
    rename_i k' xs heo
    split at h
    case h_2 => exact h.elim
    rename_i hk
    have hk' := of_decide_eq_true hk
    subst hk'
    obtain ⟨hlen, hK⟩ := h
    have hob := hs.obj b e he
    rw [heo] at hob
    simp only [ObjOk] at hob
    simp only [VR] at hx
    obtain ⟨hb, ad, c, rfl, hlc, _, had⟩ := hx
    have hl : ((xs.drop off).take len).length = len := by simp; omega
    by_cases h0 : len = 0
    · subst h0
      simp only [List.take_zero] at hK
      cases ad with
      | none =>
        rcases had with rfl | ⟨hh, _⟩
        · exact ⟨_, hK, .inl ⟨rfl, rfl⟩⟩
        · cases hh
      | some ad => exact ⟨_, hK, .inr (.inr ⟨ad, c, rfl, fun j v hv => by simp at hv⟩)⟩
    obtain ⟨q1, cells, ty, fz, q2, q3, q4, q5, q6⟩ := hob (lv_ints (i := 0) (by omega))
    rcases had with rfl | ⟨rfl, _⟩
    · omega
    refine ⟨_, hK, .inr (.inr ⟨_, c, by rw [hl], fun j v hv => ?_⟩)⟩
    have hj : j < len := by
      rcases Nat.lt_or_ge j len with g | g
      · exact g
      · rw [List.getElem?_eq_none (by simp; omega)] at hv; cases hv
    rw [addr_add, cell_of q2, q1, Nat.mul_one, Nat.add_assoc, q6 (off + j) (by omega)]
    rw [List.getElem?_map, List.getElem?_take_of_lt hj, List.getElem?_drop] at hv
    rw [List.getElem?_eq_getElem (by omega)] at hv
    simp only [Option.map_some, Option.some.injEq] at hv
    rw [← hv]
    simp [List.getD, List.getElem?_eq_getElem (show off + j < xs.length by omega)]
  · exact h.elim

/-! ### literals -/
/-- some cells laid over others -/
def splice (cs : List Value) (off : Nat) (new : List Value) : List Value := cs.take off ++ new ++ cs.drop (off + new.length)

theorem splice_length {cs new : List Value} {off : Nat} (h : off + new.length ≤ cs.length) : (splice cs off new).length = cs.length := by simp [splice]; omega
theorem splice_out {cs new : List Value} {off j : Nat} (h : off + new.length ≤ cs.length) (hj : j < off ∨ off + new.length ≤ j) : (splice cs off new)[j]? = cs[j]? := by
  unfold splice
  rcases hj with hj | hj
  · rw [List.append_assoc, List.getElem?_append_left (by simp; omega), List.getElem?_take_of_lt hj]
  · rw [List.getElem?_append_right (by simp; omega), List.getElem?_drop]
    congr 1; simp; omega
theorem splice_in {cs new : List Value} {off j : Nat} (h : off + new.length ≤ cs.length) (hj : j < new.length) : (splice cs off new)[off + j]? = new[j]? := by
  unfold splice
  rw [List.append_assoc, List.getElem?_append_right (by simp; omega), List.getElem?_append_left (by simp; omega)]
  congr 1; simp; omega

theorem fill_fold (new : List Value) : ∀ (j off : Nat) (cs : Array Value), off + j + new.length ≤ cs.size →
    ((new.zipIdx j).foldl (fun cs (c, j) => cs.setIfInBounds (off + j) c) cs).toList = splice cs.toList (off + j) new := by
  induction new with
  | nil => intro j off cs h; simp [splice]
  | cons v new ih =>
    intro j off cs h
    simp only [List.length_cons] at h
    simp only [List.zipIdx_cons, List.foldl_cons]
    rw [ih (j + 1) off _ (by simp; omega)]
    apply List.ext_getElem?
    intro q
    have hl1 : off + (j + 1) + new.length ≤ (cs.setIfInBounds (off + j) v).toList.length := by simp; omega
    have hl2 : off + j + (v :: new).length ≤ cs.toList.length := by simp; omega
    by_cases h1 : q < off + j ∨ off + j + (new.length + 1) ≤ q
    · rw [splice_out hl1 (by omega), splice_out hl2 (by simp; omega)]
      rw [Array.getElem?_toList, Array.getElem?_toList, Array.getElem?_setIfInBounds_ne (by omega)]
    · by_cases h2 : q = off + j
      · subst h2
        rw [splice_out hl1 (by omega)]
        have := splice_in (j := 0) hl2 (by simp)
        rw [Nat.add_zero] at this
        rw [this, Array.getElem?_toList, Array.getElem?_setIfInBounds_self_of_lt (by omega)]
        simp
      · have g1 := splice_in (j := q - (off + (j + 1))) hl1 (by omega)
        have g2 := splice_in (j := q - (off + j)) hl2 (by simp; omega)
        rw [show off + (j + 1) + (q - (off + (j + 1))) = q by omega] at g1
        rw [show off + j + (q - (off + j)) = q by omega] at g2
        rw [g1, g2, show q - (off + j) = (q - (off + (j + 1))) + 1 by omega, List.getElem?_cons_succ]

theorem fill_one (v : Value) (off : Nat) (cs : Array Value) (h : off + v.cells.size ≤ cs.size) :
    (v.cells.zipIdx.foldl (fun cs (c, j) => cs.setIfInBounds (off + j) c) cs).toList = splice cs.toList off v.cells.toList := by
  rw [← Array.foldl_toList, Array.toList_zipIdx]
  have := fill_fold v.cells.toList 0 off cs (by simpa using h)
  simpa using this

/-- cells of a list turned: those of a value laid over them -/
theorem CAt_splice {n : Nat} {cs new : List Value} {a m c s : List AV} {off : Nat} (hc : CAt ρ n (fun i => cs[i]?) (a ++ m ++ c) 0) (hl : cs.length = asz (a ++ m ++ c)) (ha : asz a = off) (hm : asz m = asz s)
    (hn : CAt ρ n (fun i => new[i]?) s 0) (hnl : new.length = asz s) : CAt ρ n (fun i => (splice cs off new)[i]?) (a ++ s ++ c) 0 ∧ (splice cs off new).length = asz (a ++ s ++ c) := by
  simp only [asz_append] at hl
  have hle : off + new.length ≤ cs.length := by omega
  refine ⟨?_, by rw [splice_length hle]; simp only [asz_append]; omega⟩
  refine CAt_put (ρ := ρ) (f := fun i => cs[i]?) (h := fun i => new[i]?) hc ha hm hn (fun j hj => ?_) (fun j hj => ?_)
  · exact splice_out hle (by omega)
  · exact splice_in hle (by omega)

theorem cellOrAgg {v : AV} (h : (v.isCell || v.isAgg) = true) : v.isCell = true ∨ ∃ s, v = .agg s := by
  cases v <;> simp [AV.isCell, AV.isAgg] at h ⊢

theorem partsSK_sound {n : Nat} {fs : List (Nat × TypeId)} (place : Nat → Option (Nat × Nat)) (hplace : ∀ i f fi, fs[i]? = some f → T f.2 = some fi → place i = some (f.1, fi.sz)) :
    ∀ {parts : List (Nat × AV)} {ps : List (Nat × Value)} {segs : List AV} {cells : Array Value} {K : List AV → Prop}, VRp ρ n parts ps → CAt ρ n (fun i => cells.toList[i]?) segs 0 → cells.size = asz segs →
    partsSK T fs parts segs K → ∃ s cells', K s ∧ Instr.fill place cells ps = some cells' ∧ CAt ρ n (fun i => cells'.toList[i]?) s 0 ∧ cells'.size = asz s
  | [], ps, segs, cells, K, hp, hc, hl, h => by
    simp only [VRp] at hp
    subst hp
    exact ⟨segs, cells, h, rfl, hc, hl⟩
  | (i, v) :: r, ps, segs, cells, K, hp, hc, hl, h => by
    simp only [VRp] at hp
    obtain ⟨c, cr, rfl, hv, hr⟩ := hp
    simp only [partsSK] at h
    split at h
    case h_2 => exact h.elim
    rename_i f hf
    split at h
    case h_2 => exact h.elim
    rename_i fi hfi
    split at h
    case h_2 => exact h.elim
    rename_i h1 h2
    have h1' := Nat.eq_of_beq_eq_true h1
    obtain ⟨a, m, c', g1, g2, g3, g4⟩ := putSegsK_sound h
    obtain ⟨c1, c2, c3⟩ := CAt_of_cells hv (cellOrAgg h2)
    subst g1
    have hl' : cells.toList.length = asz (a ++ m ++ c') := by simpa using hl
    obtain ⟨d1, d2⟩ := CAt_splice hc hl' g2 g3 c2 c1
    have hle : f.1 + c.cells.size ≤ cells.size := by
      simp only [asz_append] at hl'
      simp only [Array.length_toList] at hl' c1
      omega
    have hfold := fill_one c f.1 cells hle
    obtain ⟨s, cells', k1, k2, k3, k4⟩ := partsSK_sound place hplace (cells := c.cells.zipIdx.foldl (fun cs (c, j) => cs.setIfInBounds (f.1 + j) c) cells) hr
      (by rw [hfold]; exact d1) (by rw [← Array.length_toList, hfold]; exact d2) g4
    refine ⟨s, cells', k1, ?_, k3, k4⟩
    have hcz : c.cells.size = fi.sz := by rw [← h1', ← c1]; simp
    rw [hcz] at hle
    simp only [Instr.fill, hplace i f fi hf hfi]
    rw [if_neg (by simp [hcz]; omega)]
    exact k2

theorem run_mapM_of {α β : Type} (f : α → Sem β) (g : α → β) : ∀ (l : List α), (∀ a ∈ l, (f a).run P w = .ok (g a) w) → (l.mapM f).run P w = .ok (l.map g) w
  | [], _ => by simp
  | a :: l, h => by
    have ih := run_mapM_of f g l (fun a ha => h a (by simp [ha]))
    rw [List.mapM_cons]
    simp only [Sem.run_bind, h a (by simp), Result.andThen_ok, ih, Sem.run_pure, List.map_cons]

include hT in
theorem run_places {t : TypeId} {i : TI} {fields : Array Field} (ht : T t = some i) (hu : P.underlying t = some (.struct fields)) :
    (fields.mapM fun f => (do pure (f.offset, ← sizeOf f.type) : Sem (Nat × Nat))).run P w = .ok (fields.toList.map fun f => (f.offset, P.cellsOf f.type)).toArray w := by
  obtain ⟨info, dd, zv, p1, p2, p3, p4, p5, p6, p7, p8, p9, p10, p12, p11⟩ := hT.ok t i ht
  rw [hu] at p4; cases p4
  have hf := p12 fields rfl
  rw [Array.mapM_eq_mapM_toList]
  simp only [Sem.run_map]
  rw [run_mapM_of (w := w) _ (fun f => (f.offset, P.cellsOf f.type)) fields.toList (fun f hfm => by
    obtain ⟨info, hi⟩ := Option.isSome_iff_exists.1 (hf f hfm)
    simp [run_sizeOf w hi])]
  simp

/-- whole numbers out of parts -/
theorem setIntK_sound {x : Int} : ∀ {l : List Int} {i : Nat} {K : List Int → Prop}, setIntK x l i K → i < l.length ∧ K (l.set i x)
  | [], i, K, h => h.elim
  | y :: r, 0, K, h => ⟨by simp, h⟩
  | y :: r, i + 1, K, h => by
    obtain ⟨h1, h2⟩ := setIntK_sound (l := r) (i := i) h
    exact ⟨by simpa using h1, h2⟩

theorem repK_sound {α : Type} {x : α} : ∀ {n : Nat} {K : List α → Prop}, repK x n K → K (List.replicate n x)
  | 0, K, h => h
  | n + 1, K, h => by simpa [List.replicate_succ] using repK_sound (n := n) h

theorem partsIK_sound {n : Nat} {k : IntKind} : ∀ {parts : List (Nat × AV)} {ps : List (Nat × Value)} {acc : List Int} {K : List Int → Prop}, VRp ρ n parts ps → partsIK k parts acc K →
    ∃ xs, K xs ∧ xs.length = acc.length ∧ Instr.fill (fun i => some (i * 1, 1)) (acc.map (Value.int k)).toArray ps = some (xs.map (Value.int k)).toArray
  | [], ps, acc, K, hp, h => by
    simp only [VRp] at hp; subst hp
    exact ⟨acc, h, rfl, rfl⟩
  | (i, v) :: r, ps, acc, K, hp, h => by
    simp only [VRp] at hp
    obtain ⟨c, cr, rfl, hv, hr⟩ := hp
    simp only [partsIK] at h
    split at h
    case h_2 => exact h.elim
    rename_i k' x
    split at h
    case h_2 => exact h.elim
    rename_i hk
    have hk' := of_decide_eq_true hk
    subst hk'
    simp only [VR] at hv; subst hv
    obtain ⟨hi, h⟩ := setIntK_sound h
    obtain ⟨xs, h1, h2, h3⟩ := partsIK_sound hr h
    refine ⟨xs, h1, by simpa using h2, ?_⟩
    simp only [Instr.fill]
    rw [if_neg (by simp [Value.cells]; omega)]
    rw [← h3]
    congr 1
    simp [Value.cells]

include hT in
theorem evBuild_sound {n : Nat} {t : TypeId} {parts : List (Nat × AV)} {ps : Array (Nat × Value)} {K : AV → Prop} (hp : VRp ρ n parts ps.toList) (h : evBuild T t parts K) :
    ∃ v cv, K v ∧ (Instr.build t ps).run P w = .ok cv w ∧ VR ρ n v cv := by
  unfold evBuild at h
  split at h
  case h_2 => exact h.elim
  rename_i i ht
  obtain ⟨zv, hz1, hz2, hz3, hz4⟩ := hT.zero ht w
  split at h
  · rename_i fs hd
    obtain ⟨fields, hu, hfs⟩ := hT.u_struct (t := t) (fs := fs) (by simp [td, ht, hd])
    have hpl := run_places (w := w) hT ht hu
    obtain ⟨s, cells', k1, k2, k3, k4⟩ := partsSK_sound (T := T) (ρ := ρ) (fun i => ((fields.toList.map fun f => (f.offset, P.cellsOf f.type)).toArray)[i]?) (fun i f fi hf hfi => by
      subst hfs
      simp only [List.getElem?_map, Option.map_eq_some_iff] at hf
      obtain ⟨fd, hfd, rfl⟩ := hf
      obtain ⟨info, _, _, p1, p2, _⟩ := hT.ok fd.type fi hfi
      simp [hfd, Program.cellsOf, p1, p2]) hp (hz2.1 ρ n) (by simpa using hz2.2) h
    refine ⟨_, .agg cells', k1, ?_, ?_⟩
    · simp only [Instr.build, Sem.run_bind, hz1, Result.andThen_ok, run_underlying hu, Sem.run_pure]
      rw [hpl]
      simp only [Result.andThen_ok]
      rw [k2]
      simp
    · simp only [VR]
      exact ⟨cells'.toList, by simp, k3, by simpa using k4⟩
  · rename_i m el hd
    split at h
    case h_2 => exact h.elim
    rename_i ei hei
    split at h
    case h_2 => exact h.elim
    rename_i k k' m' zs hk hsz hzz
    split at h
    case h_2 => exact h.elim
    rename_i hkk hmm
    have hk' := of_decide_eq_true hkk
    have hm' := Nat.eq_of_beq_eq_true hmm
    subst hk'; subst hm'
    have hsz' := Nat.eq_of_beq_eq_true hsz
    have hu := hT.u_array (t := t) (n := m') (e := el) (by simp [td, ht, hd])
    have hz2' := hz2.1 ρ n
    have hz2'' := hz2.2
    rw [hzz] at hz2' hz2''
    simp only [CAt, Nat.zero_add, asz, AV.sz, Nat.add_zero] at hz2' hz2''
    have hcells : zv.cells = (zs.map (Value.int k)).toArray := by
      apply Array.ext'
      apply List.ext_getElem?
      intro j
      rcases Nat.lt_or_ge j m' with hj | hj
      · rw [hz2'.1.2 j hj]
        simp [List.getD, List.getElem?_eq_getElem (show j < zs.length by omega)]
      · rw [List.getElem?_eq_none (by omega), List.getElem?_eq_none (by simp; omega)]
    obtain ⟨xs, k1, k2, k3⟩ := partsIK_sound hp h
    refine ⟨_, .agg (xs.map (Value.int k)).toArray, k1, ?_, ?_⟩
    · simp only [Instr.build, Sem.run_bind, hz1, Result.andThen_ok, run_underlying hu, hT.size hei w, hsz', hcells]
      rw [k3]
      simp
    · simp only [VR]
      refine ⟨xs.map (Value.int k), rfl, ?_, by simp [asz, AV.sz, k2, hz2'.1.1]⟩
      simp only [CAt, Nat.zero_add, and_true]
      refine ⟨by rw [k2]; exact hz2'.1.1, fun j hj => ?_⟩
      simp [List.getD, List.getElem?_eq_getElem (show j < xs.length by omega)]
  · exact h.elim
end
end Go.Aw
end

section
/-
  AwH: operations that make memory. Own work of this session.
-/
set_option linter.unusedVariables false
set_option linter.unusedSimpArgs false
namespace Go.Aw

/-- an operation's run ends as the abstract one says -/
def Res (P : Program) (w0 : Base) (ρ : Nat → Loc) (hp : Hp) (w : World) (s : Sem Value) (K : Kont) : Prop :=
  ∃ v cv hp' ρ' w', K v hp' ∧ s.run P w = .ok cv w' ∧ VR ρ' hp'.length v cv ∧ HSat w0 ρ' hp' w' ∧ hp.length ≤ hp'.length ∧ ∀ b, b < hp.length → ρ' b = ρ b

section
variable {P : Program} {T : Tab} (hT : TOk P T) {w0 : Base} {w : World} {ρ : Nat → Loc} {hp : Hp} (hs : HSat w0 ρ hp w)

theorem Res.same {s : Sem Value} {K : Kont} {v : AV} {cv : Value} (hs : HSat w0 ρ hp w) (hK : K v hp) (hr : s.run P w = .ok cv w) (hv : VR ρ hp.length v cv) : Res P w0 ρ hp w s K :=
  ⟨v, cv, hp, ρ, w, hK, hr, hv, hs, Nat.le_refl _, fun _ _ => rfl⟩

def pushed (w : World) (cells : Array Value) (ty : TypeId) : World := { w with heap := w.heap.push (.cells cells ty (0, 0)) }

theorem pushed_at {w w' : World} {o : Obj} (h : w'.heap = w.heap.push o) : w'.heap[w.heap.size]? = some o := by rw [h]; simp

/-- a new block, all of it ours -/
theorem fresh (hs : HSat w0 ρ hp w) {cells : Array Value} {ty : TypeId} {fz : Nat × Nat} (e : Ent) (hro : e.ro = false) (hpar : e.par = none) (w' : World)
    (h1 : w'.heap = w.heap.push (.cells cells ty fz)) (h2 : w'.tape = w.tape) (h3 : w'.os = w.os) (h4 : w'.output = w.output)
    (hobj : ObjOk (upd ρ hp.length ⟨w.heap.size, 0, cells.size, e.esz⟩) (hp.length + 1) w' ⟨w.heap.size, 0, cells.size, e.esz⟩ false e.o) :
    HSat w0 (upd ρ hp.length ⟨w.heap.size, 0, cells.size, e.esz⟩) (hp ++ [e]) w' := by
  have hp1 := hs.push (.cells cells ty fz) w' h1 h2 h3 h4
  refine hp1.add e _ hro hpar rfl (fun _ => ⟨fun g => by have := hs.size _ g; simp only at this; omega, by rw [h1]; simp⟩) (fun _ b x hx hr hl => ?_) hobj
  have := hs.own b x hx hr hl
  simp only; omega

theorem fresh_pushed (hs : HSat w0 ρ hp w) (cells : Array Value) (ty : TypeId) (esz : Nat) (o : AObj)
    (hobj : ObjOk (upd ρ hp.length ⟨w.heap.size, 0, cells.size, esz⟩) (hp.length + 1) (pushed w cells ty) ⟨w.heap.size, 0, cells.size, esz⟩ false o) :
    HSat w0 (upd ρ hp.length ⟨w.heap.size, 0, cells.size, esz⟩) (hp ++ [⟨esz, false, none, o⟩]) (pushed w cells ty) :=
  fresh hs (fz := (0, 0)) ⟨esz, false, none, o⟩ rfl rfl (pushed w cells ty) rfl rfl rfl rfl hobj

theorem pushed_heap (w : World) (cells : Array Value) (ty : TypeId) : (pushed w cells ty).heap[w.heap.size]? = some (.cells cells ty (0, 0)) := pushed_at rfl

theorem obj_ints {ρ' : Nat → Loc} {n : Nat} {w' : World} {blk base tot : Nat} {k : IntKind} {xs : List Int} {cells : Array Value} {ty : TypeId} {fz : Nat × Nat} (h : w'.heap[blk]? = some (.cells cells ty fz))
    (ht : tot = cells.size) (hf : fz.1 = fz.2 ∨ cells.size ≤ fz.1) (hl : base + xs.length ≤ cells.size) (hc : ∀ j, j < xs.length → cells[base + j]? = some (.int k (xs.getD j 0))) :
    ObjOk ρ' n w' ⟨blk, base, tot, 1⟩ false (.ints k xs) := fun _ => ⟨rfl, cells, ty, fz, h, ht, fun _ => hf, hl, hc⟩

theorem obj_var {ρ' : Nat → Loc} {n : Nat} {w' : World} {blk esz tot : Nat} {vs : List AV} {cells : Array Value} {ty : TypeId} {fz : Nat × Nat} (h : w'.heap[blk]? = some (.cells cells ty fz))
    (ht : tot = cells.size) (hf : fz.1 = fz.2 ∨ cells.size ≤ fz.1) (hl : esz ≤ cells.size) (hz : asz vs = esz) (hc : CAt ρ' n (fun j => cells[j]?) vs 0) :
    ObjOk ρ' n w' ⟨blk, 0, tot, esz⟩ false (.var vs) := ⟨cells, ty, fz, h, ht, fun _ => hf, by simpa using hl, hz, by simpa using hc⟩

theorem VR_slice_new {n : Nat} {blk len c tot esz : Nat} {cap : Option Nat} (hl : len ≤ c) (hc : ∀ q, cap = some q → c = q) (ht : c * esz ≤ tot) :
    VR (upd ρ n ⟨blk, 0, tot, esz⟩) (n + 1) (.sl n 0 len cap) (.slice (some ⟨blk, 0, none⟩) len c) := by
  simp only [VR, upd_self]
  exact ⟨by omega, _, c, rfl, hl, hc, .inr ⟨by simp, by simpa using ht⟩⟩

include hT hs in
theorem evAlloc_sound {t : TypeId} {i : TI} {K : Kont} (ht : T t = some i) (h : newEntK ⟨i.sz, false, none, .var i.z⟩ hp fun b hp' => K (.ptr b 0 0 0) hp') :
    Res P w0 ρ hp w (Instr.alloc t true (.tuple #[])) K := by
  have hK := newEntK_sound _ h
  obtain ⟨zv, hz1, hz2, hz3, hz4⟩ := hT.zero ht w
  have hasz : asz i.z = i.sz := by rw [← hz3, ← hz2.2]; simp
  refine ⟨_, .pointer (some ⟨w.heap.size, 0, none⟩), _, upd ρ hp.length ⟨w.heap.size, 0, zv.cells.size, i.sz⟩, pushed w zv.cells t, hK, ?_, ?_, ?_, by simp, fun b hb => upd_lt hb⟩
  · simp only [Instr.alloc, Sem.run_bind, hz1, Result.andThen_ok]
    simp [newVar, newRow, pushed]
  · simp only [VR, List.length_append, List.length_singleton, upd_self]
    exact ⟨by omega, by simp⟩
  · exact fresh_pushed hs _ _ _ _ (obj_var (cells := zv.cells) (pushed_heap _ _ _) rfl (.inl rfl) (by show _ ≤ _; omega) hasz (by
      have := hz2.1 (upd ρ hp.length ⟨w.heap.size, 0, zv.cells.size, i.sz⟩) (hp.length + 1)
      simpa using this))

include hs in
theorem evBox_sound {t : TypeId} {i : TI} {v : AV} {cv : Value} {K : Kont} (hv : VR ρ hp.length v cv) (hz : asz v.segs = i.sz) (hc : (v.isCell || v.isAgg) = true)
    (h : newEntK ⟨i.sz, false, none, .var v.segs⟩ hp fun b hp' => K (.ptr b 0 0 0) hp') : Res P w0 ρ hp w (Instr.box t cv) K := by
  have hK := newEntK_sound _ h
  obtain ⟨c1, c2, c3⟩ := CAt_of_cells hv (cellOrAgg hc)
  have hsz : cv.cells.size = i.sz := by rw [← hz, ← c1]; simp
  refine ⟨_, .pointer (some ⟨w.heap.size, 0, none⟩), _, upd ρ hp.length ⟨w.heap.size, 0, cv.cells.size, i.sz⟩, pushed w cv.cells t, hK, ?_, ?_, ?_, by simp, fun b hb => upd_lt hb⟩
  · simp [Instr.box, newVar, newRow, pushed]
  · simp only [VR, List.length_append, List.length_singleton, upd_self]
    exact ⟨by omega, by simp⟩
  · refine fresh_pushed hs _ _ _ _ (obj_var (cells := cv.cells) (pushed_heap _ _ _) rfl (.inl rfl) (by show _ ≤ _; omega) hz ?_)
    have := CAt_mono (ρ' := upd ρ hp.length ⟨w.heap.size, 0, cv.cells.size, i.sz⟩) (Nat.le_succ hp.length) (fun b hb => upd_lt hb) _ _ _ c2
    simpa using this

/-- n times the cells of a zero value -/
theorem zeros_get {zero : Array Value} {m q : Nat} (hq : q < m) (hz : 0 < zero.size) : ((Array.range m).map (zero[· % zero.size]!))[q]? = zero[q % zero.size]? := by
  have : q % zero.size < zero.size := Nat.mod_lt _ hz
  simp [hq, this]

theorem zero_cells {zv : Value} {k : IntKind} {z0 : Int} (hz : ZOk [.int k z0] zv.cells.toList) : zv.cells = #[.int k z0] := by
  have h1 := hz.1 (fun _ => ⟨0, 0, 0, 0⟩) 0
  have h2 := hz.2
  simp only [CAt, VR] at h1
  obtain ⟨⟨c, g1, g2, g3⟩, _⟩ := h1
  simp only [asz, AV.sz] at h2
  subst g3
  apply Array.ext'
  apply List.ext_getElem?
  intro j
  cases j with
  | zero => simpa using g1
  | succ j => rw [List.getElem?_eq_none (by omega), List.getElem?_eq_none (by simp)]

/-- a list of whole numbers as a block -/
theorem ints_cells {k : IntKind} {xs : List Int} {j : Nat} (hj : j < xs.length) : (xs.map (Value.int k)).toArray[j]? = some (.int k (xs.getD j 0)) := by
  simp [List.getD, List.getElem?_eq_getElem hj]

theorem setElK_sound {x : List AV} : ∀ {l : List (List AV)} {i : Nat} {K : List (List AV) → Prop}, setElK x l i K → i < l.length ∧ K (l.set i x)
  | [], i, K, h => h.elim
  | y :: r, 0, K, h => ⟨by simp, h⟩
  | y :: r, i + 1, K, h => by
    obtain ⟨h1, h2⟩ := setElK_sound (l := r) (i := i) h
    exact ⟨by simpa using h1, h2⟩

/-- rows of cells, each of one size -/
def RowAt (ρ : Nat → Loc) (n sz : Nat) (cells : List Value) (els : List (List AV)) : Prop :=
  els.length * sz ≤ cells.length ∧ ∀ i x, els[i]? = some x → asz x = sz ∧ CAt ρ n (fun j => cells[i * sz + j]?) x 0

theorem rowIdx {i y l sz : Nat} (h : i < y) : i * sz + sz ≤ y * sz := by
  have : (i + 1) * sz ≤ y * sz := Nat.mul_le_mul_right _ h
  rwa [Nat.add_mul, Nat.one_mul] at this

theorem RowAt.set {n sz : Nat} {cells new : List Value} {els : List (List AV)} {i : Nat} {s : List AV} (h : RowAt ρ n sz cells els) (hi : i < els.length) (hs : asz s = sz) (hn : CAt ρ n (fun j => new[j]?) s 0) (hl : new.length = sz) :
    RowAt ρ n sz (splice cells (i * sz) new) (els.set i s) := by
  obtain ⟨h1, h2⟩ := h
  have hle : i * sz + new.length ≤ cells.length := by
    have := rowIdx (l := 0) (sz := sz) hi; omega
  refine ⟨by rw [splice_length hle]; simpa using h1, fun y z hz => ?_⟩
  by_cases e : y = i
  · subst e
    rw [List.getElem?_set_self hi] at hz
    cases hz
    refine ⟨hs, CAt_congr s 0 (fun j _ hj => ?_) hn⟩
    exact splice_in hle (by omega)
  · rw [List.getElem?_set_ne (fun g => e g.symm)] at hz
    obtain ⟨g1, g2⟩ := h2 y z hz
    refine ⟨g1, CAt_congr z 0 (fun j _ hj => ?_) g2⟩
    refine splice_out hle ?_
    rcases Nat.lt_or_ge y i with hy | hy
    · have := rowIdx (l := 0) (sz := sz) hy; omega
    · have := rowIdx (l := 0) (sz := sz) (show i < y by omega); omega

theorem partsRK_sound {n sz : Nat} : ∀ {parts : List (Nat × AV)} {ps : List (Nat × Value)} {acc : List (List AV)} {cells : Array Value} {K : List (List AV) → Prop}, VRp ρ n parts ps → RowAt ρ n sz cells.toList acc →
    partsRK sz parts acc K → ∃ els cells', K els ∧ els.length = acc.length ∧ Instr.fill (fun i => some (i * sz, sz)) cells ps = some cells' ∧ cells'.size = cells.size ∧ RowAt ρ n sz cells'.toList els
  | [], ps, acc, cells, K, hp, hr, h => by
    simp only [VRp] at hp; subst hp
    exact ⟨acc, cells, h, rfl, rfl, rfl, hr⟩
  | (i, v) :: r, ps, acc, cells, K, hp, hr, h => by
    simp only [VRp] at hp
    obtain ⟨c, cr, rfl, hv, hr'⟩ := hp
    simp only [partsRK] at h
    split at h
    case h_2 => exact h.elim
    rename_i h1 h2
    have h1' := Nat.eq_of_beq_eq_true h1
    obtain ⟨hi, h⟩ := setElK_sound h
    obtain ⟨c1, c2, c3⟩ := CAt_of_cells hv (cellOrAgg h2)
    have hcz : c.cells.size = sz := by rw [← h1', ← c1]; simp
    have hle : i * sz + c.cells.size ≤ cells.size := by
      have := rowIdx (l := 0) (sz := sz) hi
      have := hr.1
      simp only [Array.length_toList] at this
      omega
    have hfold := fill_one c (i * sz) cells hle
    obtain ⟨els, cells', k1, k2, k3, k4, k5⟩ := partsRK_sound (cells := c.cells.zipIdx.foldl (fun cs (c, j) => cs.setIfInBounds (i * sz + j) c) cells) hr'
      (by rw [hfold]; exact hr.set hi h1' c2 (by simpa using hcz)) h
    have hlen : (c.cells.zipIdx.foldl (fun cs (c, j) => cs.setIfInBounds (i * sz + j) c) cells).size = cells.size := by
      rw [← Array.length_toList, hfold, splice_length (by simpa using hle)]; simp
    refine ⟨els, cells', k1, by simpa using k2, ?_, by rw [k4, hlen], k5⟩
    rw [hcz] at hle
    simp only [Instr.fill]
    rw [if_neg (by simp [hcz]; omega)]
    exact k3

/-- as many zero rows as one wants -/
theorem zeros_row {n len : Nat} {zero : Array Value} {z : List AV} (hz : ∀ ρ n, CAt ρ n (fun i => zero.toList[i]?) z 0) (hl : zero.size = asz z) (h0 : 0 < zero.size) :
    RowAt ρ n zero.size (((Array.range (len * zero.size)).map (zero[· % zero.size]!)).toList) (List.replicate len z) := by
  refine ⟨by simp, fun i x hx => ?_⟩
  have hi : i < len := by
    rcases Nat.lt_or_ge i len with g | g
    · exact g
    · rw [List.getElem?_eq_none (by simpa using g)] at hx; cases hx
  rw [List.getElem?_replicate_of_lt hi] at hx
  cases hx
  refine ⟨hl.symm, CAt_congr z 0 (fun j _ hj => ?_) (hz ρ n)⟩
  have hb := rowIdx (l := 0) (sz := zero.size) hi
  rw [Array.getElem?_toList, zeros_get (by omega) h0]
  rw [show i * zero.size + j = j + zero.size * i by rw [Nat.mul_comm]; omega, Nat.add_mul_mod_self_left, Nat.mod_eq_of_lt (by omega), Array.getElem?_toList]

theorem RowAt.mono {ρ' : Nat → Loc} {n n' sz : Nat} {cells : List Value} {els : List (List AV)} (hn : n ≤ n') (h : ∀ b, b < n → ρ' b = ρ b) (hr : RowAt ρ n sz cells els) : RowAt ρ' n' sz cells els :=
  ⟨hr.1, fun i x hx => ⟨(hr.2 i x hx).1, CAt_mono hn h _ _ _ (hr.2 i x hx).2⟩⟩

theorem obj_row {ρ' : Nat → Loc} {n : Nat} {w' : World} {blk esz tot : Nat} {els : List (List AV)} {cells : Array Value} {ty : TypeId} {fz : Nat × Nat} (h : w'.heap[blk]? = some (.cells cells ty fz))
    (ht : tot = cells.size) (hf : fz.1 = fz.2 ∨ cells.size ≤ fz.1) (hr : RowAt ρ' n esz cells.toList els) : ObjOk ρ' n w' ⟨blk, 0, tot, esz⟩ false (.row els) := by
  refine fun _ => ⟨cells, ty, fz, h, ht, fun _ => hf, by simpa using hr.1, fun i x hx => ?_⟩
  obtain ⟨h1, h2⟩ := hr.2 i x hx
  exact ⟨h1, CAt_congr x 0 (fun j _ _ => by simp) h2⟩

include hT hs in
theorem evBuildSlice_sound {t : TypeId} {len : Nat} {parts : List (Nat × AV)} {ps : Array (Nat × Value)} {K : Kont} (hp' : VRp ρ hp.length parts ps.toList) (h : evBuildSlice T hp t len parts K) :
    Res P w0 ρ hp w (Instr.buildSlice t len ps) K := by
  unfold evBuildSlice at h
  split at h
  case h_2 => exact h.elim
  rename_i e ht
  split at h
  case h_2 => exact h.elim
  rename_i ei hei
  obtain ⟨zv, hz1, hz2, hz3, hz4⟩ := hT.zero hei w
  split at h
  · rename_i k hk
    split at h
    case h_2 => exact h.elim
    rename_i k' z0 h1 h2 h3
    split at h
    case h_2 => exact h.elim
    rename_i hkk
    have hkk' := of_decide_eq_true hkk
    subst hkk'
    have h1' := Nat.eq_of_beq_eq_true h1
    have h2' := Nat.le_of_ble_eq_true h2
    rw [h3] at hz2
    have hzc := zero_cells hz2
    obtain ⟨xs, k1, k2, k3⟩ := partsIK_sound hp' (repK_sound h)
    have hK := newEntK_sound _ k1
    have hcells : (Array.range (len * 1)).map ((if len = 0 then #[] else #[Value.int k z0])[· % (if len = 0 then #[] else #[Value.int k z0]).size]!) = ((List.replicate len z0).map (Value.int k)).toArray := by
      by_cases hl : len = 0
      · subst hl; simp
      · simp only [hl, if_false]
        apply Array.ext'
        apply List.ext_getElem?
        intro j
        rcases Nat.lt_or_ge j len with hj | hj
        · simp [hj, Nat.mod_one]
        · rw [List.getElem?_eq_none (by simpa using hj), List.getElem?_eq_none (by simpa using hj)]
    simp only [List.length_replicate] at k2
    refine ⟨_, .slice (some ⟨w.heap.size, 0, none⟩) len len, _, upd ρ hp.length ⟨w.heap.size, 0, (xs.map (Value.int k)).toArray.size, 1⟩, pushed w (xs.map (Value.int k)).toArray e, hK, ?_, ?_, ?_, by simp, fun b hb => upd_lt hb⟩
    · simp only [Instr.buildSlice, Sem.run_bind, run_underlying (hT.u_slice ht), Result.andThen_ok, hT.size hei w, h1', Nat.mul_one]
      rw [if_neg (by omega)]
      simp only [Nat.mul_one] at hcells k3
      by_cases hl : len = 0
      · subst hl
        have e1 : ∀ (f : Nat → Value), (Array.range 0).map f = #[] := by intro f; simp
        rw [show ((List.replicate 0 z0).map (Value.int k)).toArray = #[] from rfl] at k3
        simp only [if_true, Sem.run_bind, Sem.run_pure, Result.andThen_ok]
        rw [e1, k3]
        simp [newRow, pushed]
      · simp only [hl, if_false] at hcells ⊢
        simp only [Sem.run_bind, hz1, hzc, Sem.run_pure, Result.andThen_ok]
        rw [hcells, k3]
        simp [newRow, pushed]
    · simpa using VR_slice_new (ρ := ρ) (n := hp.length) (blk := w.heap.size) (len := len) (c := len) (tot := (xs.map (Value.int k)).toArray.size) (esz := 1) (cap := some len) (Nat.le_refl _) (fun q hq => by cases hq; rfl) (by simp [k2])
    · exact fresh_pushed hs _ _ _ _ (obj_ints (k := k) (xs := xs) (cells := (xs.map (Value.int k)).toArray) (pushed_heap _ _ _) rfl (.inl rfl) (by simp) (fun j hj => by rw [Nat.zero_add]; exact ints_cells hj))
  · rename_i hnk
    split at h
    case h_2 => exact h.elim
    rename_i h1 h2
    have h1' := Nat.le_of_ble_eq_true h1
    have h2' := Nat.le_of_ble_eq_true h2
    have hzs : zv.cells.size = asz ei.z := by rw [← hz2.2]; simp
    have hz0 : 0 < zv.cells.size := by omega
    have hrow := zeros_row (ρ := ρ) (n := hp.length) (len := len) (zero := zv.cells) (z := ei.z) hz2.1 hzs hz0
    rw [hz3] at hrow
    obtain ⟨els, cells', k1, k2, k3, k4, k5⟩ := partsRK_sound hp' hrow (repK_sound h)
    have hK := newEntK_sound _ k1
    simp only [List.length_replicate] at k2
    have hsz' : cells'.size = len * ei.sz := by rw [k4]; simp
    refine ⟨_, .slice (some ⟨w.heap.size, 0, none⟩) len len, _, upd ρ hp.length ⟨w.heap.size, 0, cells'.size, ei.sz⟩, pushed w cells' e, hK, ?_, ?_, ?_, by simp, fun b hb => upd_lt hb⟩
    · simp only [Instr.buildSlice, Sem.run_bind, run_underlying (hT.u_slice ht), Result.andThen_ok, hT.size hei w]
      rw [if_neg (by omega)]
      by_cases hl : len * ei.sz = 0
      · have hl0 : len = 0 := by
          rcases Nat.mul_eq_zero.1 hl with g | g
          · exact g
          · omega
        subst hl0
        have e0 : ∀ (q : Nat) (f : Nat → Value), (Array.range (0 * q)).map f = #[] := by intro q f; simp
        rw [e0] at k3
        simp only [Nat.zero_mul, if_true, Sem.run_bind, Sem.run_pure, Result.andThen_ok]
        have e1 : ∀ (f : Nat → Value), (Array.range 0).map f = #[] := by intro f; simp
        rw [e1, k3]
        simp [newRow, pushed]
      · simp only [hl, if_false, Sem.run_bind, hz1, Result.andThen_ok, Sem.run_pure]
        rw [hz3, k3]
        simp [newRow, pushed]
    · simpa using VR_slice_new (ρ := ρ) (n := hp.length) (blk := w.heap.size) (len := len) (c := len) (tot := cells'.size) (esz := ei.sz) (cap := some len) (Nat.le_refl _) (fun q hq => by cases hq; rfl) (by omega)
    · exact fresh_pushed hs _ _ _ _ (obj_row (pushed_heap _ _ _) rfl (.inl rfl) (k5.mono (by simp) (fun b hb => upd_lt hb)))

include hT hs in
theorem evMakeSlice_sound {t : TypeId} {l c : AV} {cl cc : Value} {K : Kont} (hl : VR ρ hp.length l cl) (hc : VR ρ hp.length c cc) (h : evMakeSlice T hp t l c K) :
    Res P w0 ρ hp w (Instr.makeSlice t cl cc) K := by
  unfold evMakeSlice at h
  split at h
  case h_2 => exact h.elim
  rename_i k1 l k2 c
  simp only [VR] at hl hc
  subst hl; subst hc
  split at h
  case h_2 => exact h.elim
  rename_i e ht
  split at h
  case h_2 => exact h.elim
  rename_i ei hei
  obtain ⟨zv, hz1, hz2, hz3, hz4⟩ := hT.zero hei w
  obtain ⟨info, hi1, hi2, hi3⟩ := hT.info hei w
  have wrap_id : ∀ n : Int, 0 ≤ n → n ≤ (roomMost : Int) → IntKind.i64.wrap n = n := by
    intro n h0 h1
    unfold roomMost at h1
    exact IntWalk.i64_in n (by omega)
  have main : ∀ (cells : Array Value) (bys : Nat), info.bytes = bys → bys ≤ 8192 → 0 ≤ l → l ≤ c → c ≤ (roomMost : Int) →
      (Array.range (c.toNat * ei.sz)).map ((if c.toNat * ei.sz = 0 then #[] else zv.cells)[· % (if c.toNat * ei.sz = 0 then #[] else zv.cells).size]!) = cells →
      (Instr.makeSlice t (.int k1 l) (.int k2 c)).run P w = .ok (.slice (some ⟨w.heap.size, 0, none⟩) l.toNat c.toNat) (pushed w cells e) := by
    intro cells bys hb hb8 h0 h1 h2 hcells
    have hr : (roomMost : Int) = 4294967296 := rfl
    have hmul : (bys : Int) * c ≤ 8192 * 4294967296 := by
      have : (bys : Int) * c ≤ 8192 * c := Int.mul_le_mul_of_nonneg_right (by omega) (by omega)
      omega
    have hmul2 : (bys : Int) * l ≤ 8192 * 4294967296 := by
      have : (bys : Int) * l ≤ 8192 * l := Int.mul_le_mul_of_nonneg_right (by omega) (by omega)
      omega
    have n1 : ¬ c < 0 := by omega
    have n2 : ¬ l < 0 := by omega
    have n3 : ¬ l > c := by omega
    have n4 : ¬ (bys : Int) * c > 2 ^ 48 := by omega
    simp only [Instr.makeSlice, Sem.run_bind, run_underlying (hT.u_slice ht), Result.andThen_ok, asInt, asIntOf, Sem.run_pure, hi1, hb, wrap_id c (by omega) h2, wrap_id l h0 (by omega)]
    rw [if_neg (by simp [n1, n2, n3, n4]; omega)]
    simp only [Sem.run_bind, run_askRoom, Result.andThen_ok, hT.size hei w]
    by_cases hc0 : c.toNat * ei.sz = 0
    · simp only [hc0, if_true] at hcells
      simp only [hc0, if_true, Sem.run_bind, Sem.run_pure, Result.andThen_ok]
      rw [hcells]
      simp [newRow, pushed]
    · simp only [hc0, if_false] at hcells
      simp only [hc0, if_false, Sem.run_bind, hz1, Sem.run_pure, Result.andThen_ok]
      rw [hcells]
      simp [newRow, pushed]
  split at h
  · rename_i k hk
    split at h
    case h_2 => exact h.elim
    rename_i k' z0 h1 h2 h3
    split at h
    case h_2 => exact h.elim
    rename_i hkk
    have hkk' := of_decide_eq_true hkk
    subst hkk'
    have h1' := Nat.eq_of_beq_eq_true h1
    have h2' := Nat.le_of_ble_eq_true h2
    rw [h3] at hz2
    have hzc := zero_cells hz2
    obtain ⟨q0, q1, q2, h⟩ := h
    have hK := newEntK_sound _ h
    have hcells : (Array.range (c.toNat * ei.sz)).map ((if c.toNat * ei.sz = 0 then #[] else zv.cells)[· % (if c.toNat * ei.sz = 0 then #[] else zv.cells).size]!) = ((List.replicate c.toNat z0).map (Value.int k)).toArray := by
      rw [h1', Nat.mul_one]
      by_cases hl : c.toNat = 0
      · rw [hl]; simp
      · simp only [hl, if_false, hzc]
        apply Array.ext'
        apply List.ext_getElem?
        intro j
        rcases Nat.lt_or_ge j c.toNat with hj | hj
        · simp [hj, Nat.mod_one]
        · rw [List.getElem?_eq_none (by simpa using hj), List.getElem?_eq_none (by simpa using hj)]
    have hrun := main _ ei.bys hi3 (by omega) q0 q1 q2 hcells
    refine ⟨_, .slice (some ⟨w.heap.size, 0, none⟩) l.toNat c.toNat, _, upd ρ hp.length ⟨w.heap.size, 0, ((List.replicate c.toNat z0).map (Value.int k)).toArray.size, 1⟩, pushed w ((List.replicate c.toNat z0).map (Value.int k)).toArray e, hK, hrun, ?_, ?_, by simp, fun b hb => upd_lt hb⟩
    · have := VR_slice_new (ρ := ρ) (n := hp.length) (blk := w.heap.size) (len := l.toNat) (c := c.toNat) (tot := ((List.replicate c.toNat z0).map (Value.int k)).toArray.size) (esz := 1) (cap := some c.toNat) (by omega) (fun q hq => by cases hq; rfl) (by simp)
      simpa using this
    · exact fresh_pushed hs _ _ _ _ (obj_ints (k := k) (xs := List.replicate c.toNat z0) (cells := ((List.replicate c.toNat z0).map (Value.int k)).toArray) (pushed_heap _ _ _) rfl (.inl rfl) (by simp) (fun j hj => by rw [Nat.zero_add]; exact ints_cells hj))
  · rename_i hnk
    split at h
    case h_2 => exact h.elim
    rename_i h1 h2
    have h1' := Nat.le_of_ble_eq_true h1
    have h2' := Nat.le_of_ble_eq_true h2
    obtain ⟨q0, q1, q2, h⟩ := h
    have hK := newEntK_sound _ h
    have hzs : zv.cells.size = asz ei.z := by rw [← hz2.2]; simp
    have hz0 : 0 < zv.cells.size := by omega
    have hrow := zeros_row (ρ := upd ρ hp.length ⟨w.heap.size, 0, c.toNat * ei.sz, ei.sz⟩) (n := hp.length + 1) (len := c.toNat) (zero := zv.cells) (z := ei.z) hz2.1 hzs hz0
    rw [hz3] at hrow
    have hrun := main _ ei.bys hi3 (by omega) q0 q1 q2 rfl
    have hcells : (Array.range (c.toNat * ei.sz)).map ((if c.toNat * ei.sz = 0 then #[] else zv.cells)[· % (if c.toNat * ei.sz = 0 then #[] else zv.cells).size]!) = (Array.range (c.toNat * ei.sz)).map (zv.cells[· % ei.sz]!) := by
      by_cases hl : c.toNat * ei.sz = 0
      · rw [hl]; simp
      · simp only [hl, if_false, hz3]
    rw [hcells] at hrun
    have hsz : ((Array.range (c.toNat * ei.sz)).map (zv.cells[· % ei.sz]!)).size = c.toNat * ei.sz := by simp
    refine ⟨_, .slice (some ⟨w.heap.size, 0, none⟩) l.toNat c.toNat, _, upd ρ hp.length ⟨w.heap.size, 0, ((Array.range (c.toNat * ei.sz)).map (zv.cells[· % ei.sz]!)).size, ei.sz⟩, pushed w _ e, hK, hrun, ?_, ?_, by simp, fun b hb => upd_lt hb⟩
    · have := VR_slice_new (ρ := ρ) (n := hp.length) (blk := w.heap.size) (len := l.toNat) (c := c.toNat) (tot := ((Array.range (c.toNat * ei.sz)).map (zv.cells[· % ei.sz]!)).size) (esz := ei.sz) (cap := some c.toNat) (by omega) (fun q hq => by cases hq; rfl) (by rw [hsz]; exact Nat.le_refl _)
      simpa using this
    · exact fresh_pushed hs _ _ _ _ (obj_row (pushed_heap _ _ _) rfl (.inl rfl) (by rw [hsz]; exact hrow))
end
end Go.Aw
end

section
/-
  AwI: conversions, slice expressions, append, copy. Own work of this session.
-/
set_option linter.unusedVariables false
set_option linter.unusedSimpArgs false
namespace Go.Aw
section
variable {P : Program} {T : Tab} (hT : TOk P T) {w0 : Base} {w : World} {ρ : Nat → Loc} {hp : Hp} (hs : HSat w0 ρ hp w)

/-- a block's mark that it shares with a string, behind its end -/
theorem HSat.refreeze {w' : World} (hs : HSat w0 ρ hp w) {b : Nat} {e : Ent} (hb : hp[b]? = some e) (hr : e.ro = false) (hl : e.o.lv (ρ b) = true) {cells : Array Value} {ty : TypeId} {fz fz' : Nat × Nat}
    (h0 : w.heap[(ρ b).blk]? = some (.cells cells ty fz)) (h0' : w'.heap[(ρ b).blk]? = some (.cells cells ty fz')) (hf : fz'.1 = fz'.2 ∨ cells.size ≤ fz'.1)
    (h1 : ∀ i, i ≠ (ρ b).blk → w'.heap[i]? = w.heap[i]?) (hsz : w'.heap.size = w.heap.size) (h2 : w'.tape = w.tape) (h3 : w'.os = w.os) (h4 : w'.output = w.output) : HSat w0 ρ hp w' where
  size := by rw [hsz]; exact hs.size
  old i hi := by
    have := (hs.own b e hb hr hl).1
    rw [h1 i (fun g => this (g ▸ hi))]; exact hs.old i hi
  tape := by rw [h2]; exact hs.tape
  os := by rw [h3]; exact hs.os
  out := by rw [h4]; exact hs.out
  esz := hs.esz
  obj i x hx := by
    have ho := hs.obj i x hx
    by_cases hi : (ρ i).blk = (ρ b).blk
    · cases hxo : x.o with
      | gone => trivial
      | ints k xs =>
        rw [hxo] at ho
        intro hlv
        obtain ⟨q1, c, t, f, q2, q3, q4, q5⟩ := ho hlv
        rw [hi, h0] at q2; cases q2
        exact ⟨q1, cells, ty, fz', by rw [hi]; exact h0', q3, fun _ => hf, q5⟩
      | var vs =>
        rw [hxo] at ho
        obtain ⟨c, t, f, q2, q3, q4, q5⟩ := ho
        rw [hi, h0] at q2; cases q2
        exact ⟨cells, ty, fz', by rw [hi]; exact h0', q3, fun _ => hf, q5⟩
      | row els =>
        rw [hxo] at ho
        intro hlv
        obtain ⟨c, t, f, q2, q3, q4, q5⟩ := ho hlv
        rw [hi, h0] at q2; cases q2
        exact ⟨cells, ty, fz', by rw [hi]; exact h0', q3, fun _ => hf, q5⟩
      | map k kn es clock =>
        rw [hxo] at ho
        obtain ⟨ces, q1, _⟩ := ho
        rw [hi, h0] at q1; cases q1
      | iter m since seen last =>
        rw [hxo] at ho
        have q1 := ho.2.2
        rw [hi, h0] at q1; cases q1
    · exact ObjOk_mono (Nat.le_refl _) (fun _ _ => rfl) (h1 _ hi) ho
  own := by rw [hsz]; exact hs.own
  views := hs.views
  given := hs.given
  apart := hs.apart

theorem strOf_foldl (xs : List Int) : ∀ (r : ByteArray), xs.foldl (fun r n => r.push (UInt8.ofNat n.toNat)) r = ⟨r.data ++ (strOfBytes xs).toArray⟩ := by
  induction xs with
  | nil => intro r; simp [strOfBytes]
  | cons x xs ih =>
    intro r
    rw [List.foldl_cons, ih]
    apply ByteArray.ext
    simp [strOfBytes, ByteArray.push]

include hT hs in
theorem evConv_sound {s d : TypeId} {x : AV} {cx : Value} {K : Kont} (hx : VR ρ hp.length x cx) (h : evConv T hp s d x K) : Res P w0 ρ hp w (convert s d cx) K := by
  unfold evConv at h
  split at h
  · rename_i k n
    simp only [VR] at hx; subst hx
    split at h
    · rename_i k1 k2 h1 h2
      refine Res.same hs h (cv := .int k2 (k2.wrap n)) ?_ (by simp only [VR])
      simp [convert, run_underlying (hT.u_int h1), run_underlying (hT.u_int h2), Conv.intToInt]
    · exact h.elim
  · rename_i l
    simp only [VR] at hx; subst hx
    split at h
    · rename_i h1 h2
      refine Res.same hs h (cv := .string ⟨l.toArray⟩) ?_ (by simp only [VR])
      simp [convert, run_underlying (hT.u_str h1), run_underlying (hT.u_str h2)]
    · rename_i e h1 h2
      split at h
      case h_2 => exact h.elim
      rename_i h3
      obtain ⟨hroom, h⟩ := h
      have hK := newEntK_sound _ h
      have hrun := run_bytes_of_string (P := P) w s d e ⟨l.toArray⟩ (hT.u_str h1) (hT.u_slice h2) (hT.u_int h3)
      have hcap : l.length ≤ grownCap w (⟨l.toArray⟩ : ByteArray).size 0 e := by
        simp [grownCap, Question.cut, ByteArray.size]
      generalize grownCap w (⟨l.toArray⟩ : ByteArray).size 0 e = c at hrun hcap
      have hbs : (bytesRow ⟨l.toArray⟩ c).size = c := by simp [bytesRow, ByteArray.size]; omega
      have hlen : (⟨l.toArray⟩ : ByteArray).size = l.length := by simp [ByteArray.size]
      rw [hlen] at hrun
      refine ⟨_, _, _, upd ρ hp.length ⟨w.heap.size, 0, (bytesRow ⟨l.toArray⟩ c).size, 1⟩, _, hK, hrun, ?_, ?_, by simp, fun b hb => upd_lt hb⟩
      · have := VR_slice_new (ρ := ρ) (n := hp.length) (blk := w.heap.size) (len := l.length) (c := c) (tot := (bytesRow ⟨l.toArray⟩ c).size) (esz := 1) (cap := none) hcap (fun q hq => by cases hq) (by omega)
        simpa using this
      · refine fresh hs (cells := bytesRow ⟨l.toArray⟩ c) (ty := e) (fz := ((bytesRow ⟨l.toArray⟩ c).size, (bytesRow ⟨l.toArray⟩ c).size + 1)) ⟨1, false, none, .ints .u8 (bytesOfStr l)⟩ rfl rfl _ rfl rfl rfl rfl ?_
        refine obj_ints (k := .u8) (xs := bytesOfStr l) (cells := bytesRow ⟨l.toArray⟩ c) (pushed_at rfl) rfl (.inr (Nat.le_refl _)) (by simp [bytesOfStr]; omega) (fun j hj => ?_)
        simp only [bytesOfStr, List.length_map] at hj
        rw [Nat.zero_add]
        unfold bytesRow
        rw [Array.getElem?_append_left (by simpa using hj)]
        simp [bytesOfStr, List.getD, List.getElem?_eq_getElem hj]
    · exact h.elim
  · rename_i hni hns
    split at h
    · rename_i e h1 h2
      split at h
      case h_2 => exact h.elim
      rename_i h3
      obtain ⟨xs, hK, hc⟩ := intsOf_sound hs hx h
      rcases hc with ⟨rfl, rfl⟩ | ⟨l, rfl, _, rfl⟩ | ⟨ad, c, rfl, hcells⟩
      · refine Res.same hs hK (cv := .string ⟨[].toArray⟩) ?_ (by simp only [VR, strOfBytes, List.map_nil])
        simp [convert, run_underlying (hT.u_slice h1), run_underlying (hT.u_str h2), run_underlying (hT.u_int h3), Conv.bytesToString]
        try rfl
      · cases x <;> simp only [intsOf] at h <;> first | exact h.elim | skip
        · exact absurd rfl (hns _)
        · rename_i v
          simp only [VR] at hx
          rw [← hx.1] at h
          exact h.elim
        · simp only [VR] at hx
          obtain ⟨_, ad, c, hx, _⟩ := hx
          cases hx
      · have hr := run_loadCells_list (P := P) w ad (xs.map (Value.int .u8)) hcells
        rw [List.length_map] at hr
        refine Res.same hs hK (cv := .string ⟨(strOfBytes xs).toArray⟩) ?_ (by simp only [VR])
        have hb := run_bytesToString w ad xs.length c xs hr
        rw [strOf_foldl] at hb
        simp [convert, run_underlying (hT.u_slice h1), run_underlying (hT.u_str h2), run_underlying (hT.u_int h3), hb]
        try rfl
    · rename_i e0 e h1 h2
      split at h
      case h_2 => exact h.elim
      rename_i b off len cap h3 h4
      obtain ⟨en, hen, h⟩ := entK_sound h
      split at h
      case h_2 => exact h.elim
      rename_i k xs hro hob
      obtain ⟨hlen, hxl, hK⟩ := h
      have hsd := Nat.eq_of_beq_eq_true h4
      have ho := hs.obj b en hen
      rw [hob, hro] at ho
      obtain ⟨q1, cells, ty, fz, q2, q3, q4, q5, q6⟩ := ho (lv_ints (i := 0) (by omega))
      have hx' := hx
      simp only [VR] at hx'
      obtain ⟨hb, ad, c, rfl, hlc, hcap, had⟩ := hx'
      rcases had with rfl | ⟨rfl, htot⟩
      · omega
      have hsh : w.shape? (ρ b).blk = some (ty, cells.size) := by simp [World.shape?, q2]
      refine ⟨_, _, hp, ρ, w.freeze ⟨(ρ b).blk, cells.size, none⟩ 1, hK, ?_, hx, ?_, Nat.le_refl _, fun _ _ => rfl⟩
      · subst hsd
        have he0 : e0 = e := by rw [h1] at h2; cases h2; rfl
        subst he0
        simp [convert, run_underlying (hT.u_slice h1), run_underlying (hT.u_int h3), markStringish, hsh]
      · have hfz : (w.freeze ⟨(ρ b).blk, cells.size, none⟩ 1).heap = w.heap.modify (ρ b).blk (fun
            | .cells c elem (lo, hi) => .cells c elem (if lo == hi then (cells.size, cells.size + 1) else (min lo cells.size, max hi (cells.size + 1)))
            | o => o) := by simp [World.freeze]; rfl
        obtain ⟨lo, hi⟩ := fz
        refine hs.refreeze hen hro (by rw [hob]; exact lv_ints (i := 0) (by omega)) q2 (fz' := if lo == hi then (cells.size, cells.size + 1) else (min lo cells.size, max hi (cells.size + 1))) ?_ ?_ ?_ ?_ ?_ ?_ ?_
        · rw [hfz, Array.getElem?_modify, q2]; simp
        · have := q4 rfl
          simp only at this
          by_cases e : lo = hi
          · simp [e]
          · simp only [beq_iff_eq, e, if_false]
            right
            rcases this with h | h
            · exact absurd h e
            · omega
        · intro i hi
          rw [hfz, Array.getElem?_modify, if_neg (fun e => hi e.symm)]
        · rw [hfz]; simp
        · simp [World.freeze]
        · simp [World.freeze]
        · simp [World.freeze]
    · exact h.elim

/-- an operand that may be left out -/
def OVR (ρ : Nat → Loc) (n : Nat) : Option AV → Option Value → Prop
  | none, none => True
  | some v, some c => VR ρ n v c
  | _, _ => False
/-- a bound, or what stands for it where it is left out -/
def BndIs (c : Option Value) (dflt m : Nat) : Prop :=
  match c with
  | none => m = dflt
  | some c => ∃ k, c = .int k (m : Int)

/-- the bounds of a slice expression -/
theorem bnd_sound {x : Option AV} {c : Option Value} {dflt : Nat} {n : Nat} {K : Nat → Prop} (hx : OVR ρ n x c) (h : bndK x dflt K) : ∃ m, K m ∧ BndIs c dflt m := by
  unfold bndK at h
  cases x with
  | none =>
    cases c with
    | none => exact ⟨dflt, h, rfl⟩
    | some c => exact hx.elim
  | some v =>
    cases c with
    | none => exact hx.elim
    | some c =>
      simp only at h
      split at h
      · rename_i k m
        simp only [OVR, VR] at hx
        obtain ⟨h0, h1⟩ := h
        refine ⟨m.toNat, h1, k, ?_⟩
        rw [hx]; congr 1; omega
      · exact h.elim

theorem run_sliceBounds {isS : Bool} {len cap a h : Nat} {lo hi : Option Value} (hlo : BndIs lo 0 a) (hhi : BndIs hi len h)
    (h1 : a ≤ h) (h2 : h ≤ cap) : (Instr.sliceBounds isS len cap lo hi none).run P w = .ok (a, h, cap) w := by
  have ha : (a : Int) ≤ h := by omega
  have hc : (h : Int) ≤ cap := by omega
  cases lo with
  | none =>
    simp only [BndIs] at hlo; subst hlo
    cases hi with
    | none => simp only [BndIs] at hhi; subst hhi; simp [Instr.sliceBounds]
    | some c =>
      obtain ⟨k, rfl⟩ := hhi
      simp [Instr.sliceBounds, Instr.sliceBound, asIntOf, h2]
  | some c =>
    obtain ⟨k, rfl⟩ := hlo
    cases hi with
    | none => simp only [BndIs] at hhi; subst hhi; simp [Instr.sliceBounds, Instr.sliceBound, asIntOf, h1]
    | some c =>
      obtain ⟨k, rfl⟩ := hhi
      simp [Instr.sliceBounds, Instr.sliceBound, asIntOf, h1, h2]

include hT hs in
theorem evSlice_sound {t : TypeId} {x : AV} {cx : Value} {lo hi : Option AV} {clo chi : Option Value} {K : Kont} (hx : VR ρ hp.length x cx)
    (hlo : OVR ρ hp.length lo clo) (hhi : OVR ρ hp.length hi chi) (h : evSlice T hp t x lo hi K) : Res P w0 ρ hp w (Instr.sliceAt t cx clo chi none) K := by
  unfold evSlice at h
  split at h
  · rename_i l
    split at h
    case h_2 => exact h.elim
    rename_i ht
    obtain ⟨q, h, hq⟩ := bnd_sound hhi h
    obtain ⟨a, h, ha⟩ := bnd_sound hlo h
    obtain ⟨h1, h2, hK⟩ := h
    simp only [VR] at hx; subst hx
    have hb := run_sliceBounds (P := P) (w := w) (isS := false) ha hq h1 h2
    refine Res.same hs hK (cv := .string ⟨((l.take q).drop a).toArray⟩) ?_ (by simp only [VR])
    have hsz : (⟨l.toArray⟩ : ByteArray).size = l.length := by simp [ByteArray.size]
    simp only [Instr.sliceAt, Sem.run_bind, run_underlying (hT.u_str ht), Result.andThen_ok, Instr.slice, hsz]
    simp only [Option.isSome_none, Bool.false_eq_true, if_false, Sem.run_bind, Sem.run_pure, Result.andThen_ok, hb]
    congr 2
    apply ByteArray.ext
    apply Array.ext'
    have := Lib.extract_data ⟨l.toArray⟩ a q
    rw [this]
    simp [List.drop_take]
  · rename_i b off len cap
    split at h
    case h_2 => exact h.elim
    rename_i e ht
    split at h
    case h_2 => exact h.elim
    rename_i ei hei
    obtain ⟨en, hen, h⟩ := entK_sound h
    split at h
    case h_2 => exact h.elim
    rename_i hz
    have hz' := Nat.eq_of_beq_eq_true hz
    have hez := hs.esz b en hen
    obtain ⟨q, h, hq⟩ := bnd_sound hhi h
    obtain ⟨a, h, ha⟩ := bnd_sound hlo h
    obtain ⟨h1, h⟩ := h
    simp only [VR] at hx
    obtain ⟨hb, ad, c, rfl, hlc, hcap, had⟩ := hx
    have hqc : q ≤ c := by
      cases cap with
      | none => simp only at h; omega
      | some c' => simp only at h; have := hcap c' rfl; omega
    have hbd := run_sliceBounds (P := P) (w := w) (isS := true) ha hq h1 hqc
    have hrun : (Instr.sliceAt t (.slice ad len c) clo chi none).run P w = .ok (.slice (if c = a then ad else ad.map (·.add (a * (ρ b).esz))) (q - a) (c - a)) w := by
      simp only [Instr.sliceAt, Sem.run_bind, run_underlying (hT.u_slice ht), Result.andThen_ok, Instr.slice, hbd, hT.size hei w, Sem.run_pure, hz', ← hez]
    have hv : ∀ cap', (∀ q, cap' = some q → c - a = q) → VR ρ hp.length (.sl b (off + a) (q - a) cap') (.slice (if c = a then ad else ad.map (·.add (a * (ρ b).esz))) (q - a) (c - a)) := by
      intro cap' hc'
      simp only [VR]
      refine ⟨hb, _, _, rfl, by omega, hc', ?_⟩
      by_cases e : c = a
      · left; omega
      · right
        rcases had with rfl | ⟨rfl, ht⟩
        · omega
        · simp only [e, if_false, Option.map_some, addr_add]
          refine ⟨?_, ?_⟩
          · congr 2
            rw [Nat.add_mul]; omega
          · rw [show off + a + (c - a) = off + c by omega]; exact ht
    cases cap with
    | none => exact Res.same hs h.2 hrun (hv none (fun q hq => by cases hq))
    | some c' => exact Res.same hs h.2 hrun (hv _ (fun q hq => by cases hq; have := hcap c' rfl; omega))
  · split at h
    case h_2 => exact h.elim
    rename_i e ht
    split at h
    case h_2 => exact h.elim
    rename_i ei hei
    obtain ⟨q, h, hq⟩ := bnd_sound hhi h
    obtain ⟨a, h, ha⟩ := bnd_sound hlo h
    obtain ⟨h1, h2, hK⟩ := h
    subst h1; subst h2
    have hx' := hx
    simp only [VR] at hx'
    obtain ⟨rfl, _⟩ := hx'
    have hbd := run_sliceBounds (P := P) (w := w) (isS := true) (cap := 0) ha hq (Nat.le_refl _) (Nat.le_refl _)
    refine Res.same hs hK (cv := .slice none 0 0) ?_ hx
    simp only [Instr.sliceAt, Sem.run_bind, run_underlying (hT.u_slice ht), Result.andThen_ok, Instr.slice, hbd, hT.size hei w, Sem.run_pure]
    rfl
  · rename_i b i off j
    split at h
    case h_2 => exact h.elim
    rename_i n e ht
    split at h
    case h_2 => exact h.elim
    rename_i ei hei
    obtain ⟨en, hen, hE⟩ := entK_sound h
    clear h
    split at hE
    case h_2 => exact hE.elim
    rename_i vs hro hob hi hj hz
    have hi' := Nat.eq_of_beq_eq_true hi
    have hj' := Nat.eq_of_beq_eq_true hj
    have hz' := Nat.eq_of_beq_eq_true hz
    subst hi'; subst hj'
    obtain ⟨q, h, hq⟩ := bnd_sound hhi hE
    obtain ⟨a, h, ha⟩ := bnd_sound hlo h
    obtain ⟨h1, h2, h⟩ := h
    obtain ⟨va, r, g1, g2, h⟩ := dropK_sound h
    split at h
    case h_2 => exact h.elim
    rename_i k n' xs vr
    split at h
    case h_2 => exact h.elim
    rename_i hn
    have hn' := Nat.eq_of_beq_eq_true hn
    subst hn'
    have hK := newEntK_sound _ h
    simp only [VR] at hx
    obtain ⟨hb, rfl⟩ := hx
    have hbd := run_sliceBounds (P := P) (w := w) (isS := false) ha hq h1 h2
    have ho := hs.obj b en hen
    rw [hob] at ho
    obtain ⟨cells, ty, fz, q2, q3, q4, q5, q6, q7⟩ := ho
    subst g1
    rw [CAt_append] at q7
    simp only [CAt, Nat.zero_add, asz_append, asz, AV.sz, g2] at q6 q7
    obtain ⟨_, ⟨q8, q9⟩, _⟩ := q7
    have hrun : (Instr.sliceAt t (.pointer (some ⟨(ρ b).blk, (ρ b).base + 0 * (ρ b).esz + off + 0, none⟩)) clo chi none).run P w =
        .ok (.slice (some ⟨(ρ b).blk, (ρ b).base + off + (if n = a then 0 else a), none⟩) (q - a) (n - a)) w := by
      simp only [Instr.sliceAt, Sem.run_bind, run_underlying (hT.u_array ht), Result.andThen_ok, Instr.sureAddr, Sem.run_pure, hbd, hT.size hei w, hz', Nat.mul_one, addr_add]
      congr 3
      split <;> simp
    refine ⟨_, _, _, upd ρ hp.length ⟨(ρ b).blk, (ρ b).base + off, (ρ b).tot, 1⟩, w, hK, hrun, ?_, ?_, by simp, fun b hb => upd_lt hb⟩
    · simp only [VR, List.length_append, List.length_singleton, upd_self, Nat.mul_one]
      refine ⟨by omega, _, n - a, rfl, by omega, fun q hq => by cases hq; rfl, ?_⟩
      by_cases e : n = a
      · left; omega
      · right
        simp only [e, if_false]
        exact ⟨trivial, by omega⟩
    · refine hs.view hen hro (by rw [hob]; rfl) _ _ rfl rfl rfl rfl ?_
      refine fun _ => ⟨rfl, cells, ty, fz, q2, q3, (fun h => by cases h), (by show (ρ b).base + off + xs.length ≤ _; omega), fun j hj => ?_⟩
      show cells[(ρ b).base + off + j]? = _
      rw [Nat.add_assoc]; exact q9 j (by omega)
  · exact h.elim

/-! ### append -/
/-- what is appended: so many elements, their cells as they lie now -/
def Src (P : Program) (w : World) (size : Nat) (cx : Value) (n : Nat) (news : List Value) : Prop :=
  (∀ w', (Builtin.lenOf cx).run P w' = .ok n w') ∧ news.length = n * size ∧ (∀ u ∈ news, u.oneCell' = true) ∧
  ∀ w', w'.heap = w.heap → (Builtin.firstCells size n cx).run P w' = .ok news.toArray w'

theorem cell_heap {w w' : World} (h : w'.heap = w.heap) (a : Addr) : w'.cell? a = w.cell? a := by simp [World.cell?, h]

theorem src_nil {size : Nat} : Src P w size (.slice none 0 0) 0 [] := by
  refine ⟨fun w' => rfl, by simp, by simp, fun w' _ => rfl⟩

theorem src_slice {size n c : Nat} {ad : Addr} {news : List Value} (hl : news.length = n * size) (h1 : ∀ u ∈ news, u.oneCell' = true) (h : ∀ j v, news[j]? = some v → w.cell? (ad.add j) = some v) :
    Src P w size (.slice (some ad) n c) n news := by
  refine ⟨fun w' => rfl, hl, h1, fun w' hw => ?_⟩
  have := run_loadCells_list (P := P) w' ad news (fun j v hv => by rw [cell_heap hw]; exact h j v hv)
  rw [hl] at this
  exact this

theorem src_str {l : List UInt8} : Src P w 1 (.string ⟨l.toArray⟩) l.length ((bytesOfStr l).map (Value.int .u8)) := by
  refine ⟨fun w' => by simp [Builtin.lenOf, ByteArray.size], by simp [bytesOfStr], fun u hu => ?_, fun w' _ => ?_⟩
  · simp at hu; obtain ⟨x, _, rfl⟩ := hu; rfl
  · simp only [Builtin.firstCells, Sem.run_pure]
    congr 1
    apply Array.ext'
    have h := Lib.extract_data ⟨l.toArray⟩ 0 l.length
    simp only [Array.toList_map]
    rw [h]
    simp [bytesOfStr, List.take_of_length_le]

theorem src_of_ints {k : IntKind} {cx : Value} {xs : List Int} (h : ((cx = .slice none 0 0 ∧ xs = []) ∨ (∃ l : List UInt8, cx = .string ⟨l.toArray⟩ ∧ k = .u8 ∧ xs = bytesOfStr l) ∨
      (∃ ad c, cx = .slice (some ad) xs.length c ∧ ∀ j v, (xs.map (Value.int k))[j]? = some v → w.cell? (ad.add j) = some v))) : Src P w 1 cx xs.length (xs.map (Value.int k)) := by
  rcases h with ⟨rfl, rfl⟩ | ⟨l, rfl, rfl, rfl⟩ | ⟨ad, c, rfl, hc⟩
  · exact src_nil
  · have := src_str (P := P) (w := w) (l := l)
    simpa [bytesOfStr] using this
  · refine src_slice (by simp) (fun u hu => ?_) hc
    simp at hu; obtain ⟨x, _, rfl⟩ := hu; rfl

theorem growBy_le (newLen : Nat) : ∀ (r c : Nat), c ≤ 2 * newLen + 1024 → Builtin.growBy newLen r c ≤ 2 * newLen + 1024
  | 0, c, h => h
  | r + 1, c, h => by
    unfold Builtin.growBy
    split
    · exact h
    · exact growBy_le newLen r _ (by omega)

theorem next_le (need c : Nat) (h : c < need) : Builtin.nextslicecap need c ≤ 2 * need + 1024 := by
  unfold Builtin.nextslicecap
  split
  · omega
  · split
    · omega
    · exact growBy_le need 4 c (by omega)

/-- the cells of an append's new array, or of the old one behind it -/
theorem run_append {t t2 ty e : TypeId} {ei : TI} {base : Option Addr} {len c n : Nat} {cx : Value} {news olds : List Value} (hT : TOk P T) (ht : td T t = .slice e) (hei : T e = some ei)
    (ht2 : (match td T t2 with | .slice _ => true | .str => true | _ => false) = true) (hb8 : ei.bys ≤ 8192) (hsz : 0 < ei.sz) (hsrc : Src P w ei.sz cx n news)
    (hroom : len + n ≤ roomMost) (hold : ∀ w', w'.heap = w.heap → (Builtin.firstCells ei.sz len (.slice base len c)).run P w' = .ok olds.toArray w') (hol : olds.length = len * ei.sz) (hlc : len ≤ c)
    (hstore : len + n ≤ c → ∃ w', (match base with | some a => storeCells (a.add (len * ei.sz)) news | none => pure ()).run P w = .ok () w') :
    (∃ w', len + n ≤ c ∧ (match base with | some a => storeCells (a.add (len * ei.sz)) news | none => pure ()).run P w = .ok () w' ∧
        (Builtin.append_ #[t, t2] ty #[.slice base len c, cx]).run P w = .ok (.slice base (len + n) c) w') ∨
    (∃ c' cells, c < len + n ∧ len + n ≤ c' ∧ cells.size = c' * ei.sz ∧ (∀ j, j < (olds ++ news).length → cells[j]? = (olds ++ news)[j]?) ∧
        (Builtin.append_ #[t, t2] ty #[.slice base len c, cx]).run P w = .ok (.slice (some ⟨w.heap.size, 0, none⟩) (len + n) c') (pushed { w with drawn := w.drawn + 1 } cells e)) := by
  obtain ⟨s1, s2, s3, s4⟩ := hsrc
  have hz2 : (∃ e2, P.underlying t2 = some (.slice e2)) ∨ P.underlying t2 = some .string := by
    cases h : td T t2 with
    | slice e2 => exact .inl ⟨_, hT.u_slice h⟩
    | str => exact .inr (hT.u_str h)
    | _ => rw [h] at ht2; cases ht2
  obtain ⟨info, hi1, hi2, hi3⟩ := hT.info hei w
  obtain ⟨zv, hz, hzo, hzs, _⟩ := hT.zero hei ({ w with drawn := w.drawn + 1 } : World)
  by_cases hfit : len + n ≤ c
  · obtain ⟨w', hw'⟩ := hstore hfit
    refine .inl ⟨w', hfit, hw', ?_⟩
    rcases hz2 with ⟨e2, hd2⟩ | hd2
    all_goals
      simp only [Builtin.append_, List.getElem?_toArray, List.getElem?_cons_zero, List.getElem?_cons_succ, Sem.run_bind, run_underlying (hT.u_slice ht), Result.andThen_ok, hT.size hei w,
        run_underlying hd2, Sem.run_pure, s1, Bool.false_eq_true, if_false, Bool.not_false, if_true, hfit, s4 w rfl]
      cases base with
      | none => simp at hw' ⊢; exact hw'
      | some a => simp only at hw' ⊢; simp only [Sem.run_bind, hw', Result.andThen_ok, Sem.run_pure]
  · refine .inr ?_
    have hneed : c < len + n := by omega
    have hr : roomMost = 4294967296 := rfl
    have hnext := next_le (len + n) c hneed
    have hmul : Builtin.nextslicecap (len + n) c * info.bytes ≤ 2 ^ 48 := by
      have h1 : Builtin.nextslicecap (len + n) c * info.bytes ≤ (2 * 4294967296 + 1024) * 8192 := Nat.mul_le_mul (by omega) (by omega)
      omega
    have hq : (Question.appendCap (len + n) c e).forced = false := rfl
    have hcut : len + n ≤ (Question.appendCap (len + n) c e).cut (w.tape w.drawn (.appendCap (len + n) c e)) := by simp [Question.cut]
    refine ⟨(Question.appendCap (len + n) c e).cut (w.tape w.drawn (.appendCap (len + n) c e)),
      olds.toArray ++ news.toArray ++ Builtin.zeroCells zv.cells ((Question.appendCap (len + n) c e).cut (w.tape w.drawn (.appendCap (len + n) c e)) - (len + n)), hneed, hcut, ?_, fun j hj => ?_, ?_⟩
    · simp [Builtin.zeroCells, hzs, hol, s2]
      rw [← Nat.add_mul, ← Nat.add_mul]
      congr 1; omega
    · rw [Array.getElem?_append_left (by simpa using hj)]
      simp
    · have hov : ¬ (((len + n : Nat) : Int) > IntKind.i64.max ∧ (false = true ∨ info.bytes = 0)) := by
        intro h; have := h.1; simp at this; omega
      have hbig : ¬ (Builtin.nextslicecap (len + n) c * info.bytes > 2 ^ 48) := by omega
      rcases hz2 with ⟨e2, hd2⟩ | hd2
      all_goals
        simp only [Builtin.append_, List.getElem?_toArray, List.getElem?_cons_zero, List.getElem?_cons_succ, Sem.run_bind, run_underlying (hT.u_slice ht), Result.andThen_ok, hT.size hei w,
          run_underlying hd2, Sem.run_pure, s1, Bool.false_eq_true, if_false, hfit, hi1]
        rw [if_neg (by simpa using hov)]
        simp only [Sem.run_bind, hi1, Result.andThen_ok]
        rw [if_neg hbig]
        simp only [Sem.run_bind, run_choose, hq, Bool.false_eq_true, if_false, Result.andThen_ok]
        obtain ⟨info2, hj1, hj2, hj3⟩ := hT.info hei ({ w with drawn := w.drawn + 1 } : World)
        simp only [hj1, Result.andThen_ok, run_askRoom, hold ({ w with drawn := w.drawn + 1 } : World) rfl, Bool.not_false, if_true, s4 ({ w with drawn := w.drawn + 1 } : World) rfl, hz]
        simp only [newRow, Sem.run_bind, run_newObj, Result.andThen_ok, Sem.run_pure, pushed]

/-- 'o' has m elements of 'esz' cells, lying as g says -/
def Made (ρ : Nat → Loc) (n esz : Nat) (o : AObj) (m : Nat) (g : Nat → Option Value) : Prop :=
  match o with
  | .ints k xs => esz = 1 ∧ xs.length = m ∧ ∀ j, j < m → g j = some (.int k (xs.getD j 0))
  | .row els => els.length = m ∧ ∀ i x, els[i]? = some x → asz x = esz ∧ CAt ρ n (fun j => g (i * esz + j)) x 0
  | _ => False

theorem Made.dead {n esz : Nat} {o : AObj} {g : Nat → Option Value} {l : Loc} (h : Made ρ n esz o 0 g) (hl : l.tot ≤ l.base) : ¬ o.lv l = true := by
  cases o with
  | ints k xs => have := List.eq_nil_of_length_eq_zero h.2.1; subst this; simp [AObj.lv, hl]
  | row els => have := List.eq_nil_of_length_eq_zero h.1; subst this; simp [AObj.lv, hl]
  | _ => exact h.elim

theorem Made.mono {ρ' : Nat → Loc} {n n' esz m : Nat} {o : AObj} {g : Nat → Option Value} (hn : n ≤ n') (hr : ∀ b, b < n → ρ' b = ρ b) (h : Made ρ n esz o m g) : Made ρ' n' esz o m g := by
  cases o with
  | ints k xs => exact h
  | row els => exact ⟨h.1, fun i x hx => ⟨(h.2 i x hx).1, CAt_mono hn hr _ _ _ (h.2 i x hx).2⟩⟩
  | _ => exact h.elim

theorem Made.obj {n esz m blk base tot : Nat} {o : AObj} {g : Nat → Option Value} {cells : Array Value} {ty : TypeId} {fz : Nat × Nat} {w : World} (h : Made ρ n esz o m g) (hw : w.heap[blk]? = some (.cells cells ty fz))
    (ht : tot = cells.size) (hf : fz.1 = fz.2 ∨ cells.size ≤ fz.1) (hl : base + m * esz ≤ cells.size) (hg : ∀ j, j < m * esz → cells[base + j]? = g j) : ObjOk ρ n w ⟨blk, base, tot, esz⟩ false o := by
  cases o with
  | ints k xs =>
    obtain ⟨h1, h2, h3⟩ := h
    subst h1
    exact fun _ => ⟨rfl, cells, ty, fz, hw, ht, fun _ => hf, by show base + xs.length ≤ _; omega, fun j hj => by rw [hg j (by omega)]; exact h3 j (by omega)⟩
  | row els =>
    obtain ⟨h1, h2⟩ := h
    refine fun _ => ⟨cells, ty, fz, hw, ht, fun _ => hf, by show base + els.length * esz ≤ _; rw [h1]; exact hl, fun i x hx => ?_⟩
    obtain ⟨g1, g2⟩ := h2 i x hx
    refine ⟨g1, CAt_congr x 0 (fun j _ hj => ?_) g2⟩
    have hi : i < m := by
      rw [← h1]
      rcases Nat.lt_or_ge i els.length with q | q
      · exact q
      · rw [List.getElem?_eq_none q] at hx; cases hx
    have := rowIdx (l := 0) (sz := esz) hi
    show cells[base + i * esz + j]? = g (i * esz + j)
    rw [Nat.add_assoc, hg _ (by omega)]
  | _ => exact h.elim

/-- a list of whole numbers, or of rows -/
def AObj.list : AObj → Bool
  | .ints _ _ => true
  | .row _ => true
  | _ => false

theorem made_of_obj {n : Nat} {l : Loc} {ro : Bool} {o : AObj} (h : ObjOk ρ n w l ro o) (hl : o.list = true) (hlv : o.lv l = true) :
    ∃ m cells ty fz, Made ρ n l.esz o m (fun j => cells[l.base + j]?) ∧ w.heap[l.blk]? = some (.cells cells ty fz) ∧ l.tot = cells.size ∧ (ro = false → (fz.1 = fz.2 ∨ cells.size ≤ fz.1)) ∧ l.base + m * l.esz ≤ cells.size ∧
      (∀ j, j < m * l.esz → ∃ c, cells[l.base + j]? = some c ∧ c.oneCell' = true) := by
  cases o with
  | ints k xs =>
    obtain ⟨q1, cells, ty, fz, q2, q3, q4, q5, q6⟩ := h hlv
    refine ⟨xs.length, cells, ty, fz, ⟨q1, rfl, q6⟩, q2, q3, q4, by rw [q1]; omega, fun j hj => ⟨_, q6 j (by rw [q1] at hj; omega), rfl⟩⟩
  | row els =>
    obtain ⟨cells, ty, fz, q2, q3, q4, q5, q6⟩ := h hlv
    refine ⟨els.length, cells, ty, fz, ⟨rfl, fun i x hx => ?_⟩, q2, q3, q4, q5, fun j hj => ?_⟩
    · obtain ⟨g1, g2⟩ := q6 i x hx
      exact ⟨g1, by simpa [Nat.add_assoc] using g2⟩
    · have hz : 0 < l.esz := by
        rcases Nat.eq_zero_or_pos l.esz with e | e
        · rw [e] at hj; omega
        · exact e
      have hi : j / l.esz < els.length := (Nat.div_lt_iff_lt_mul hz).2 hj
      obtain ⟨g1, g2⟩ := q6 (j / l.esz) els[j / l.esz] (List.getElem?_eq_getElem hi)
      obtain ⟨c, k1, k2⟩ := CAt_cell _ 0 (j % l.esz) g2 (by omega) (by rw [g1, Nat.zero_add]; exact Nat.mod_lt _ hz)
      refine ⟨c, ?_, k2⟩
      have := Nat.div_add_mod j l.esz
      rw [Nat.mul_comm] at this
      rw [← k1]; congr 1; omega
  | _ => cases hl

/-- joined lists -/
theorem made_join {n esz m1 m2 : Nat} {g g' : Nat → Option Value} {news : List Value} {o o' src : AObj} {off len : Nat} (h : Made ρ n esz o m1 g) (hs : Made ρ n esz src m2 (fun j => news[j]?)) (hol : off + len ≤ m1)
    (ho : (∃ k xs ys, o = .ints k xs ∧ src = .ints k ys ∧ o' = .ints k ((xs.drop off).take len ++ ys)) ∨ (∃ xs ys, o = .row xs ∧ src = .row ys ∧ o' = .row ((xs.drop off).take len ++ ys)))
    (h1 : ∀ j, j < len * esz → g' j = g (off * esz + j)) (h2 : ∀ j, j < m2 * esz → g' (len * esz + j) = news[j]?) : Made ρ n esz o' (len + m2) g' := by
  rcases ho with ⟨k, xs, ys, rfl, rfl, rfl⟩ | ⟨xs, ys, rfl, rfl, rfl⟩
  · obtain ⟨a1, a2, a3⟩ := h
    obtain ⟨b1, b2, b3⟩ := hs
    subst a1
    have hl : ((xs.drop off).take len).length = len := by simp; omega
    refine ⟨rfl, by simp; omega, fun j hj => ?_⟩
    rcases Nat.lt_or_ge j len with q | q
    · have e1 := h1 j (by omega)
      rw [e1, Nat.mul_one, a3 _ (by omega)]
      congr 2
      simp only [List.getD]
      rw [List.getElem?_append_left (by omega), List.getElem?_take_of_lt q, List.getElem?_drop]
    · have e2 := h2 (j - len) (by omega)
      rw [show len * 1 + (j - len) = j by omega] at e2
      have e3 := b3 (j - len) (by omega)
      simp only at e3
      rw [e2, e3]
      congr 2
      simp only [List.getD]
      rw [List.getElem?_append_right (by omega), hl]
  · obtain ⟨a2, a3⟩ := h
    obtain ⟨b2, b3⟩ := hs
    have hl : ((xs.drop off).take len).length = len := by simp; omega
    refine ⟨by simp; omega, fun i x hx => ?_⟩
    rcases Nat.lt_or_ge i len with q | q
    · rw [List.getElem?_append_left (by omega), List.getElem?_take_of_lt q, List.getElem?_drop] at hx
      obtain ⟨c1, c2⟩ := a3 _ _ hx
      refine ⟨c1, CAt_congr x 0 (fun j _ hj => ?_) c2⟩
      have := rowIdx (l := 0) (sz := esz) q
      rw [h1 _ (by omega)]
      congr 1
      rw [Nat.add_mul]; omega
    · rw [List.getElem?_append_right (by omega), hl] at hx
      obtain ⟨c1, c2⟩ := b3 _ _ hx
      refine ⟨c1, CAt_congr x 0 (fun j _ hj => ?_) c2⟩
      have hi : i - len < m2 := by
        rw [← b2]
        rcases Nat.lt_or_ge (i - len) ys.length with p | p
        · exact p
        · rw [List.getElem?_eq_none p] at hx; cases hx
      have := rowIdx (l := 0) (sz := esz) hi
      show g' (i * esz + j) = news[(i - len) * esz + j]?
      rw [← h2 _ (by omega)]
      congr 1
      have : i * esz = len * esz + (i - len) * esz := by rw [← Nat.add_mul]; congr 1; omega
      omega

include hT hs in
theorem evAppend_sound {t t2 ty e : TypeId} {ei : TI} {base : AV} {cb cx : Value} {n : Nat} {news : List Value} {fr : AObj} {mk : Nat → Nat → AObj → (AObj → Prop) → Prop} {K : Kont}
    (hbase : VR ρ hp.length base cb) (ht : td T t = .slice e) (hei : T e = some ei) (ht2 : (match td T t2 with | .slice _ => true | .str => true | _ => false) = true) (hb8 : ei.bys ≤ 8192) (hsz : 0 < ei.sz)
    (hsrc : Src P w ei.sz cx n news) (hfr : Made ρ hp.length ei.sz fr n (fun j => news[j]?))
    (hmk : ∀ off len o Ko, mk off len o Ko → o.list = true ∧ ((∃ k xs, o = .ints k xs) → ei.sz = 1) ∧ ∃ o', Ko o' ∧ ∀ m g, Made ρ hp.length ei.sz o m g → off + len ≤ m ∧
      ∀ g', (∀ j, j < len * ei.sz → g' j = g (off * ei.sz + j)) → (∀ j, j < n * ei.sz → g' (len * ei.sz + j) = news[j]?) → Made ρ hp.length ei.sz o' (len + n) g')
    (h : evAppend hp ei.sz base n fr mk K) : Res P w0 ρ hp w (Builtin.append_ #[t, t2] ty #[cb, cx]) K := by
  unfold evAppend at h
  have s2 := hsrc.2.1
  have s3 := hsrc.2.2.1
  have hw1 : HSat w0 ρ hp ({ w with drawn := w.drawn + 1 } : World) := hs.congr rfl rfl rfl rfl
  split at h
  · simp only [VR] at hbase
    obtain ⟨rfl, _⟩ := hbase
    obtain ⟨h0, h1⟩ := h
    rcases Nat.eq_zero_or_pos n with hn | hn
    · have hK := h0 hn
      rcases run_append (P := P) (w := w) (ty := ty) (base := none) (len := 0) (c := 0) (olds := []) hT ht hei ht2 hb8 hsz hsrc (by rw [hn]; decide) (fun w' _ => rfl) (by simp) (Nat.le_refl _) (fun _ => ⟨w, rfl⟩) with ⟨w', _, g1, g2⟩ | ⟨c', cells, g1, _⟩
      · cases g1
        subst hn
        exact Res.same hs hK g2 (by simp only [VR]; exact ⟨trivial, rfl⟩)
      · omega
    · obtain ⟨hroom, h1⟩ := h1 hn
      have hK := newEntK_sound _ h1
      rcases run_append (P := P) (w := w) (ty := ty) (base := none) (len := 0) (c := 0) (olds := []) hT ht hei ht2 hb8 hsz hsrc (by omega) (fun w' _ => rfl) (by simp) (Nat.le_refl _) (fun hc => by omega) with ⟨w', hc, _, _⟩ | ⟨c', cells, g1, g2, g3, g4, g5⟩
      · omega
      · simp only [List.nil_append, s2, Nat.zero_add] at g4 g5 g2
        refine ⟨_, _, _, upd ρ hp.length ⟨w.heap.size, 0, cells.size, ei.sz⟩, _, hK, g5, ?_, ?_, by simp, fun b hb => upd_lt hb⟩
        · have := VR_slice_new (ρ := ρ) (n := hp.length) (blk := w.heap.size) (len := n) (c := c') (tot := cells.size) (esz := ei.sz) (cap := none) g2 (fun q hq => by cases hq) (by omega)
          simpa using this
        · refine fresh_pushed (w := { w with drawn := w.drawn + 1 }) hw1 _ _ _ _ ?_
          have hle : n * ei.sz ≤ c' * ei.sz := Nat.mul_le_mul_right _ g2
          exact (hfr.mono (Nat.le_succ _) (fun b hb => upd_lt hb)).obj (pushed_heap _ _ _) rfl (.inl rfl) (by omega) (fun j hj => by rw [Nat.zero_add]; exact g4 j hj)
  · rename_i b off len cap
    obtain ⟨en, hen, h⟩ := entK_sound h
    split at h
    case h_2 => exact h.elim
    rename_i hro hez
    have hez' := Nat.eq_of_beq_eq_true hez
    obtain ⟨hroom, h⟩ := h
    obtain ⟨hlist, hone, o', h, hm⟩ := hmk _ _ _ _ h
    obtain ⟨hblt, h⟩ := setObjK_sound h
    have hK := newEntK_sound _ h
    have hρz := hs.esz b en hen
    have ho := hs.obj b en hen
    rw [hro] at ho
    have hlen : ((dropV b hp).set b ⟨en.esz, en.ro, en.par, .gone⟩).length = hp.length := by simp [dropV_length]
    by_cases hlive : en.o.lv (ρ b) = true
    case neg =>
      -- nothing stands there, and there is no room
      have hnr := lv_not hlive
      have hgone := hs.dull hen .gone (by simp [AObj.lv])
      rcases hnr with hg | ⟨hnr, hem⟩
      · rw [hg] at hlist; cases hlist
      have hM : Made ρ hp.length ei.sz en.o 0 (fun _ => none) := by
        rcases hem with ⟨k, hk⟩ | hk
        · rw [hk]; exact ⟨hone ⟨k, [], hk⟩, rfl, fun j hj => by omega⟩
        · rw [hk]; exact ⟨rfl, fun i x hx => by simp at hx⟩
      obtain ⟨k1, k2⟩ := hm 0 _ hM
      have hl0 : len = 0 := by omega
      subst hl0
      simp only [VR] at hbase
      obtain ⟨hb, ad, c, rfl, hlc, hcap, had⟩ := hbase
      have hc0 : c = 0 := by
        rcases had with rfl | ⟨_, htot⟩
        · rfl
        · have := Nat.mul_le_mul_left (off + c) (show 1 ≤ (ρ b).esz by rw [hρz, hez']; omega)
          omega
      subst hc0
      have hnew : ∀ g', (∀ j, j < n * ei.sz → g' j = news[j]?) → Made ρ hp.length ei.sz o' n g' := by
        intro g' hg'
        have := k2 g' (fun j hj => by omega) (fun j hj => by rw [Nat.zero_mul, Nat.zero_add]; exact hg' j hj)
        rwa [Nat.zero_add] at this
      rcases run_append (P := P) (w := w) (ty := ty) (base := ad) (len := 0) (c := 0) (olds := []) hT ht hei ht2 hb8 hsz hsrc hroom
          (fun w' _ => by cases ad <;> simp [Builtin.firstCells, loadCells, loadCellsFrom]) (by simp) (Nat.le_refl _) (fun hfit => by
            have : news = [] := by
              apply List.eq_nil_of_length_eq_zero
              rw [s2, show n = 0 by omega, Nat.zero_mul]
            subst this
            exact ⟨w, by cases ad <;> rfl⟩) with ⟨w', hfit, g1, g2⟩ | ⟨c', cells2, g1, g2, g3, g4, g5⟩
      · have hn0 : n = 0 := by omega
        subst hn0
        have : news = [] := by
          apply List.eq_nil_of_length_eq_zero
          rw [s2, Nat.zero_mul]
        subst this
        have hw : w' = w := by
          have h2 : (match ad with | some a => storeCells (a.add (0 * ei.sz)) [] | none => pure ()).run P w = .ok () w := by cases ad <;> rfl
          rw [h2] at g1; cases g1; rfl
        subst hw
        have hd := Made.dead (l := ⟨0, 0, 0, ei.sz⟩) (hnew (fun _ => none) (fun j hj => by omega)) (Nat.le_refl _)
        have hadd := hgone.add ⟨ei.sz, false, none, o'⟩ ⟨0, 0, 0, ei.sz⟩ rfl rfl rfl (fun h => absurd h hd) (fun h => absurd h hd) (obj_dead hd)
        rw [hlen] at hadd
        refine ⟨_, _, _, _, _, hK, g2, ?_, hadd, by simp [dropV_length], fun b hb => upd_lt hb⟩
        simp only [VR, List.length_append, hlen, List.length_singleton, upd_self]
        exact ⟨by omega, ad, 0, rfl, by omega, (fun q hq => by cases hq), .inl rfl⟩
      · have hle3 : n * ei.sz ≤ c' * ei.sz := Nat.mul_le_mul_right _ (by omega)
        simp only [List.nil_append, s2] at g4
        have hg2 : HSat w0 ρ ((dropV b hp).set b ⟨en.esz, en.ro, en.par, .gone⟩) ({ w with drawn := w.drawn + 1 } : World) := hgone.congr rfl rfl rfl rfl
        have hadd := fresh_pushed (w := ({ w with drawn := w.drawn + 1 } : World)) hg2 cells2 e ei.sz o' (by
          rw [hlen]
          exact ((hnew (fun j => news[j]?) (fun j hj => rfl)).mono (Nat.le_succ _) (fun b hb => upd_lt hb)).obj (pushed_heap _ _ _) rfl (.inl rfl) (by omega) (fun j hj => by rw [Nat.zero_add]; exact g4 j hj))
        rw [hlen] at hadd
        refine ⟨_, _, _, _, _, hK, g5, ?_, hadd, by simp [dropV_length], fun b hb => upd_lt hb⟩
        have := VR_slice_new (ρ := ρ) (n := hp.length) (blk := w.heap.size) (len := 0 + n) (c := c') (tot := cells2.size) (esz := ei.sz) (cap := none) g2 (fun q hq => by cases hq) (by omega)
        simpa [dropV_length] using this
    have hown := hs.own b en hen hro hlive
    obtain ⟨m, cells, cty, fz, q1, q2, q3, q4, q5, q6⟩ := made_of_obj ho hlist hlive
    rw [hρz, hez'] at q1 q5 q6
    obtain ⟨hol, hm⟩ := hm m _ q1
    simp only [VR] at hbase
    obtain ⟨hb, ad, c, rfl, hlc, hcap, had⟩ := hbase
    have hlen : ((dropV b hp).set b ⟨en.esz, en.ro, en.par, .gone⟩).length = hp.length := by simp [dropV_length]
    rw [hlen] at hK
    have hle1 : (off + len) * ei.sz ≤ m * ei.sz := Nat.mul_le_mul_right _ hol
    rw [Nat.add_mul] at hle1
    -- the elder elements, read
    have holds : ∃ olds : List Value, olds.length = len * ei.sz ∧ (∀ j, j < len * ei.sz → olds[j]? = cells[(ρ b).base + off * ei.sz + j]?) ∧ (c ≠ 0 ∨ len = 0) ∧
        ∀ w' : World, w'.heap = w.heap → (Builtin.firstCells ei.sz len (.slice ad len c)).run P w' = .ok olds.toArray w' := by
      rcases had with rfl | ⟨rfl, htot⟩
      · have : len = 0 := by omega
        subst this
        exact ⟨[], by simp, fun j hj => by omega, .inr rfl, fun w' _ => by cases ad <;> simp [Builtin.firstCells, loadCells, loadCellsFrom]⟩
      · obtain ⟨cs, c1, c2, c3⟩ := run_cells (P := P) (o := (ρ b).base + off * ei.sz) (n := len * ei.sz) q2 (by omega)
        refine ⟨cs, c2, c3, (by omega), fun w' hw' => ?_⟩
        have hw2 : w'.heap[(ρ b).blk]? = some (.cells cells cty fz) := by rw [hw']; exact q2
        obtain ⟨cs', d1, d2, d3⟩ := run_cells (P := P) (o := (ρ b).base + off * ei.sz) (n := len * ei.sz) hw2 (by omega)
        have : cs' = cs := by
          apply List.ext_getElem?
          intro j
          rcases Nat.lt_or_ge j (len * ei.sz) with p | p
          · rw [d3 j p, c3 j p]
          · rw [List.getElem?_eq_none (by omega), List.getElem?_eq_none (by omega)]
        subst this
        simp only [Builtin.firstCells, hρz, hez']
        exact d1
    obtain ⟨olds, o1, o2, o3, o4⟩ := holds
    have hstore : len + n ≤ c → (match ad with | some a => storeCells (a.add (len * ei.sz)) news | none => pure ()).run P w = .ok () (w.setCells (ρ b).blk ((ρ b).base + off * ei.sz + len * ei.sz) news) ∧ (c = 0 ∨ (ad = some ⟨(ρ b).blk, (ρ b).base + off * ei.sz, none⟩ ∧ (ρ b).base + (off + c) * ei.sz ≤ cells.size)) := by
      intro hfit
      rcases had with rfl | ⟨rfl, htot⟩
      · have : news = [] := by
          apply List.eq_nil_of_length_eq_zero
          rw [s2, show n = 0 by omega, Nat.zero_mul]
        subst this
        exact ⟨by cases ad <;> rfl, .inl rfl⟩
      · rw [hρz, hez', q3] at htot
        have hle2 : (off + (len + n)) * ei.sz ≤ (off + c) * ei.sz := Nat.mul_le_mul_right _ (by omega)
        rw [Nat.add_mul, Nat.add_mul] at hle2
        refine ⟨?_, .inr ⟨by rw [hρz, hez'], htot⟩⟩
        simp only
        rw [hρz, hez', addr_add]
        exact store_cells q2 (q4 rfl) (by rw [s2]; omega) s3
    rcases run_append (P := P) (w := w) (ty := ty) (base := ad) (len := len) (c := c) (olds := olds) hT ht hei ht2 hb8 hsz hsrc hroom o4 o1 hlc (fun hfit => ⟨_, (hstore hfit).1⟩) with ⟨w', hfit, g1, g2⟩ | ⟨c', cells2, g1, g2, g3, g4, g5⟩
    · -- in place
      obtain ⟨k1, k2⟩ := hstore hfit
      rw [k1] at g1
      cases g1
      have hfits : (ρ b).base + off * ei.sz + len * ei.sz + news.length ≤ cells.size := by
        rw [s2]
        rcases k2 with k2 | ⟨_, htot⟩
        · have e1 : n = 0 := by omega
          rw [e1, Nat.zero_mul]; omega
        · have hle2 : (off + (len + n)) * ei.sz ≤ (off + c) * ei.sz := Nat.mul_le_mul_right _ (by omega)
          rw [Nat.add_mul, Nat.add_mul] at hle2
          omega
      obtain ⟨cells', p1, p2, p3, p4, p5, p6, p7, p8, p9, p10⟩ := setCells_facts news (ρ b).blk ((ρ b).base + off * ei.sz + len * ei.sz) w cells cty fz q2 hfits
      rw [s2] at p3 p4 hfits
      have hgone := hs.set (w' := w.setCells (ρ b).blk ((ρ b).base + off * ei.sz + len * ei.sz) news) hen hro hlive .gone p5 p6 p7 p8 p9 trivial
      have hnew := hgone.add ⟨ei.sz, false, none, o'⟩ ⟨(ρ b).blk, (ρ b).base + off * ei.sz, (ρ b).tot, ei.sz⟩ rfl rfl rfl (fun _ => ⟨hown.1, by rw [p6]; exact hown.2⟩) (fun _ i x hx hr hl => by
          rcases set_get hx with ⟨z1, z2⟩ | ⟨z1, z2⟩
          · rw [z2] at hl; cases hl
          · obtain ⟨y, z3, z4⟩ := dropV_get z2
            subst z4
            split at hl
            · cases hl
            · rename_i hp'
              rw [if_neg hp'] at hr
              exact hs.apart i b y en z3 hen z1 hr hro hl hlive) (by
          rw [hlen]
          refine ((hm (fun j => cells'[(ρ b).base + off * ei.sz + j]?) (fun j hj => ?_) (fun j hj => ?_)).mono (Nat.le_succ _) (fun b hb => upd_lt hb)).obj p1 (by rw [p2]; exact q3) (by rw [p2]; exact q4 rfl) (by rw [p2, Nat.add_mul]; omega) (fun j hj => rfl)
          · show cells'[(ρ b).base + off * ei.sz + j]? = cells[(ρ b).base + (off * ei.sz + j)]?
            rw [p3 _ (by omega), Nat.add_assoc]
          · show cells'[(ρ b).base + off * ei.sz + (len * ei.sz + j)]? = _
            rw [← p4 j (by omega)]
            congr 1; omega)
      rw [hlen] at hnew
      refine ⟨_, _, _, _, _, hK, g2, ?_, hnew, by simp [dropV_length], fun b hb => upd_lt hb⟩
      simp only [VR, List.length_append, hlen, List.length_singleton, upd_self]
      refine ⟨by omega, ad, c, rfl, hfit, (fun q hq => by cases hq), ?_⟩
      rcases k2 with k2 | ⟨k2, htot⟩
      · exact .inl k2
      · right
        rw [Nat.zero_mul, Nat.add_zero, Nat.zero_add, q3]
        refine ⟨k2, ?_⟩
        rw [Nat.add_mul] at htot
        omega
    · -- a new array
      have hgone := hs.set (w' := ({ w with drawn := w.drawn + 1 } : World)) hen hro hlive .gone (fun _ _ => rfl) rfl rfl rfl rfl trivial
      have hle3 : (len + n) * ei.sz ≤ c' * ei.sz := Nat.mul_le_mul_right _ g2
      have hjoin : (olds ++ news).length = (len + n) * ei.sz := by rw [List.length_append, o1, s2, Nat.add_mul]
      rw [hjoin] at g4
      have hnew := fresh_pushed (w := ({ w with drawn := w.drawn + 1 } : World)) hgone cells2 e ei.sz o' (by
        rw [hlen]
        refine ((hm (fun j => (olds ++ news)[j]?) (fun j hj => ?_) (fun j hj => ?_)).mono (Nat.le_succ _) (fun b hb => upd_lt hb)).obj (pushed_heap _ _ _) rfl (.inl rfl) (by omega) (fun j hj => by rw [Nat.zero_add]; exact g4 j hj)
        · show (olds ++ news)[j]? = cells[(ρ b).base + (off * ei.sz + j)]?
          rw [List.getElem?_append_left (by omega), o2 j hj, Nat.add_assoc]
        · show (olds ++ news)[len * ei.sz + j]? = _
          rw [List.getElem?_append_right (by omega), o1]
          congr 1; omega)
      rw [hlen] at hnew
      refine ⟨_, _, _, _, _, hK, g5, ?_, hnew, by simp [dropV_length], fun b hb => upd_lt hb⟩
      have := VR_slice_new (ρ := ρ) (n := hp.length) (blk := w.heap.size) (len := len + n) (c := c') (tot := cells2.size) (esz := ei.sz) (cap := none) g2 (fun q hq => by cases hq) (by omega)
      simpa [dropV_length] using this
  · exact h.elim

/-- the rows that a slice holds -/
theorem rowOf_sound {sz : Nat} {x : AV} {cx : Value} {K : List (List AV) → Prop} (hs : HSat w0 ρ hp w) (hz : 0 < sz) (hx : VR ρ hp.length x cx) (h : rowOf hp sz x K) :
    ∃ els news, K els ∧ Src P w sz cx els.length news ∧ Made ρ hp.length sz (.row els) els.length (fun j => news[j]?) := by
  unfold rowOf at h
  split at h
  · simp only [VR] at hx
    obtain ⟨rfl, _⟩ := hx
    exact ⟨[], [], h, src_nil, rfl, fun i x hx => by simp at hx⟩
  · rename_i b off len cap
    obtain ⟨e, he, h⟩ := entK_sound h
    split at h
    case h_2 => exact h.elim
    rename_i els heo
    split at h
    case h_2 => exact h.elim
    rename_i hk
    have hk' := Nat.eq_of_beq_eq_true hk
    obtain ⟨hlen, hK⟩ := h
    have hob := hs.obj b e he
    have hez := hs.esz b e he
    rw [heo] at hob
    simp only [VR] at hx
    obtain ⟨hb, ad, c, rfl, hlc, _, had⟩ := hx
    have hl : ((els.drop off).take len).length = len := by simp; omega
    rcases Nat.eq_zero_or_pos len with h0 | h0
    · subst h0
      refine ⟨_, [], hK, ?_, by simp, fun i x hx => by simp at hx⟩
      rw [List.take_zero]
      exact ⟨fun w' => by cases ad <;> rfl, by simp, by simp, fun w' _ => by cases ad <;> simp [Builtin.firstCells, loadCells, loadCellsFrom]⟩
    obtain ⟨cells, ty, fz, q2, q3, q4, q5, q6⟩ := hob (lv_row (i := 0) (by omega))
    rw [hez, hk'] at q5 q6
    rcases had with rfl | ⟨rfl, _⟩
    · omega
    · have hle : (off + len) * sz ≤ els.length * sz := Nat.mul_le_mul_right _ hlen
      rw [Nat.add_mul] at hle
      obtain ⟨cs, c1, c2, c3⟩ := run_cells (P := P) (o := (ρ b).base + off * sz) (n := len * sz) q2 (by omega)
      have hcell : ∀ j, j < len * sz → ∃ u, cells[(ρ b).base + off * sz + j]? = some u ∧ u.oneCell' = true := by
        intro j hj
        have hi : j / sz < len := (Nat.div_lt_iff_lt_mul hz).2 hj
        obtain ⟨g1, g2⟩ := q6 (off + j / sz) els[off + j / sz] (List.getElem?_eq_getElem (by omega))
        obtain ⟨u, k1, k2⟩ := CAt_cell _ 0 (j % sz) g2 (by omega) (by rw [g1, Nat.zero_add]; exact Nat.mod_lt _ hz)
        refine ⟨u, ?_, k2⟩
        have := Nat.div_add_mod j sz
        rw [Nat.mul_comm] at this
        rw [← k1]; congr 1
        rw [Nat.add_mul]; omega
      refine ⟨_, cs, hK, ?_, rfl, fun i x hx => ?_⟩
      · rw [hl]
        rw [hez, hk']
        refine src_slice c2 (fun u hu => ?_) (fun j v hv => ?_)
        · obtain ⟨j, hj, rfl⟩ := List.mem_iff_getElem.1 hu
          obtain ⟨u, k1, k2⟩ := hcell j (by omega)
          have := c3 j (by omega)
          rw [k1, List.getElem?_eq_getElem hj] at this
          cases this
          exact k2
        · have hj : j < len * sz := by
            rw [← c2]
            rcases Nat.lt_or_ge j cs.length with g | g
            · exact g
            · rw [List.getElem?_eq_none g] at hv; cases hv
          rw [addr_add, cell_of q2, ← c3 j hj]
          exact hv
      · have hi : i < len := by
          rcases Nat.lt_or_ge i len with g | g
          · exact g
          · rw [List.getElem?_eq_none (by omega)] at hx; cases hx
        rw [List.getElem?_take_of_lt hi, List.getElem?_drop] at hx
        obtain ⟨g1, g2⟩ := q6 _ _ hx
        refine ⟨g1, CAt_congr x 0 (fun j _ hj => ?_) g2⟩
        have := rowIdx (l := 0) (sz := sz) hi
        show cs[i * sz + j]? = _
        rw [c3 _ (by omega)]
        congr 1
        rw [Nat.add_mul]; omega
  · exact h.elim

include hT hs in
theorem evBuiltin_sound {bi : Builtin} {ts : Array TypeId} {ty : TypeId} {args : List AV} {cs : List Value} {K : Kont} {consts : Array Bool} (ha : VRs ρ hp.length args cs) (h : evBuiltin T hp bi ts.toList args K) :
    ∃ v cv hp' ρ' w', K v hp' ∧ (builtin bi ts ty consts cs.toArray).run P w = .ok (.value cv) w' ∧ VR ρ' hp'.length v cv ∧ HSat w0 ρ' hp' w' ∧ hp.length ≤ hp'.length ∧ ∀ b, b < hp.length → ρ' b = ρ b := by
  have lift : ∀ (s : Sem Value), Res P w0 ρ hp w s K → (builtin bi ts ty consts cs.toArray).run P w = (do pure (Next.value (← s))).run P w →
      ∃ v cv hp' ρ' w', K v hp' ∧ (builtin bi ts ty consts cs.toArray).run P w = .ok (.value cv) w' ∧ VR ρ' hp'.length v cv ∧ HSat w0 ρ' hp' w' ∧ hp.length ≤ hp'.length ∧ ∀ b, b < hp.length → ρ' b = ρ b := by
    rintro s ⟨v, cv, hp', ρ', w', k1, k2, k3, k4, k5, k6⟩ he
    refine ⟨v, cv, hp', ρ', w', k1, ?_, k3, k4, k5, k6⟩
    rw [he]; simp [k2]
  unfold evBuiltin at h
  split at h
  · -- len
    split at h
    case h_2 => exact h.elim
    rename_i t tr x hts
    simp only [VRs] at ha
    obtain ⟨cx, cr, rfl, hx, rfl⟩ := ha
    have ht0 : ts[0]? = some t := by
      have : ts.toList[0]? = some t := by rw [hts]; rfl
      simpa using this
    split at h
    · rename_i l
      split at h
      case h_2 => exact h.elim
      rename_i ht
      simp only [VR] at hx; subst hx
      have hsz : (⟨l.toArray⟩ : ByteArray).size = l.length := by simp [ByteArray.size]
      refine lift (Builtin.len_ ts ty #[.string ⟨l.toArray⟩]) (Res.same hs h (cv := goInt (l.length : Int)) ?_ (by simp only [VR]; rfl)) rfl
      simp [Builtin.len_, ht0, run_underlying (hT.u_str ht), hsz]
    · rename_i b off len cap
      split at h
      case h_2 => exact h.elim
      rename_i e ht
      simp only [VR] at hx
      obtain ⟨_, ad, c, rfl, _⟩ := hx
      refine lift (Builtin.len_ ts ty #[.slice ad len c]) (Res.same hs h (cv := goInt (len : Int)) ?_ (by simp only [VR]; rfl)) rfl
      cases ad <;> simp [Builtin.len_, ht0, run_underlying (hT.u_slice ht)]
    · split at h
      case h_2 => exact h.elim
      rename_i e ht
      simp only [VR] at hx
      obtain ⟨rfl, _⟩ := hx
      refine lift (Builtin.len_ ts ty #[.slice none 0 0]) (Res.same hs h (cv := goInt 0) ?_ (by simp only [VR]; rfl)) rfl
      simp [Builtin.len_, ht0, run_underlying (hT.u_slice ht)]
    · split at h
      case h_2 => exact h.elim
      rename_i m e ht
      refine lift (Builtin.len_ ts ty #[cx]) (Res.same hs h (cv := goInt (m : Int)) ?_ (by simp only [VR]; rfl)) rfl
      simp only [Builtin.len_, ht0, List.getElem?_toArray, List.getElem?_cons_zero, Sem.run_bind, run_underlying (hT.u_array ht), Result.andThen_ok]
      rfl
  · -- min
    split at h
    case h_2 => exact h.elim
    rename_i k a k' b
    simp only [VRs, VR] at ha
    obtain ⟨c, cr, rfl, rfl, c2, cr2, rfl, rfl, rfl⟩ := ha
    refine lift (Builtin.min_ ts ty #[.int k a, .int k' b]) (Res.same hs h (cv := .int k (if b < a then b else a)) ?_ (by simp only [VR])) rfl
    simp [Builtin.min_, Builtin.min2]
  · -- max
    split at h
    case h_3 => exact h.elim
    · rename_i k a k' b
      simp only [VRs, VR] at ha
      obtain ⟨c, cr, rfl, rfl, c2, cr2, rfl, rfl, rfl⟩ := ha
      refine lift (Builtin.max_ ts ty #[.int k a, .int k' b]) (Res.same hs h (cv := .int k (if b > a then b else a)) ?_ (by simp only [VR])) rfl
      simp [Builtin.max_, Builtin.max2]
    · rename_i k a k' b k'' c
      simp only [VRs, VR] at ha
      obtain ⟨c1, cr, rfl, rfl, c2, cr2, rfl, rfl, c3, cr3, rfl, rfl, rfl⟩ := ha
      refine lift (Builtin.max_ ts ty #[.int k a, .int k' b, .int k'' c]) (Res.same hs h (cv := .int k (if c > (if b > a then b else a) then c else (if b > a then b else a))) ?_ (by simp only [VR])) rfl
      simp [Builtin.max_, Builtin.max2, List.foldlM]
  · -- append
    split at h
    case h_2 => exact h.elim
    rename_i t t2 base x hts
    simp only [VRs] at ha
    obtain ⟨cb, cr, rfl, hb, cx, cr2, rfl, hx, rfl⟩ := ha
    have htsa : ts = #[t, t2] := by
      apply Array.ext'; rw [hts]
    subst htsa
    split at h
    case h_2 => exact h.elim
    rename_i d ht2
    generalize hd : td T t = d at h
    split at h
    case h_2 => exact h.elim
    rename_i e
    split at h
    case h_2 => exact h.elim
    rename_i ei hei
    refine lift (Builtin.append_ #[t, t2] ty #[cb, cx]) ?_ rfl
    split at h
    · rename_i k hk
      split at h
      case h_2 => exact h.elim
      rename_i h1 h2
      have h1' := Nat.eq_of_beq_eq_true h1
      have h2' := Nat.le_of_ble_eq_true h2
      obtain ⟨src, h, hsrc⟩ := intsOf_sound hs hx h
      have hS := src_of_ints (P := P) hsrc
      rw [← h1'] at hS
      have hM : Made ρ hp.length ei.sz (.ints k src) src.length (fun j => (src.map (Value.int k))[j]?) := ⟨h1', rfl, fun j hj => by simp [List.getD, List.getElem?_eq_getElem hj]⟩
      rw [← h1'] at h
      refine evAppend_sound hT hs hb hd hei ht2 (by omega) (by omega) hS hM (fun off len o Ko hko => ?_) h
      split at hko
      case h_2 => exact hko.elim
      rename_i k' xs
      split at hko
      case h_2 => exact hko.elim
      rename_i hkk
      have hkk' := of_decide_eq_true hkk
      subst hkk'
      obtain ⟨hol, hko⟩ := hko
      refine ⟨rfl, (fun _ => by omega), _, hko, fun m g hm => ?_⟩
      have hml : xs.length = m := hm.2.1
      refine ⟨by omega, fun g' g1 g2 => made_join hm hM (by omega) (.inl ⟨k, xs, src, rfl, rfl, rfl⟩) g1 g2⟩
    · rename_i hnk
      split at h
      case h_2 => exact h.elim
      rename_i h1 h2
      have h1' := Nat.le_of_ble_eq_true h1
      have h2' := Nat.le_of_ble_eq_true h2
      obtain ⟨els, news, h, hS, hM⟩ := rowOf_sound (P := P) hs (by omega) hx h
      refine evAppend_sound hT hs hb hd hei ht2 (by omega) (by omega) hS hM (fun off len o Ko hko => ?_) h
      split at hko
      case h_2 => exact hko.elim
      rename_i xs
      obtain ⟨hol, hko⟩ := hko
      refine ⟨rfl, (fun ⟨_, _, hh⟩ => by cases hh), _, hko, fun m g hm => ?_⟩
      have hml : xs.length = m := hm.1
      refine ⟨by omega, fun g' g1 g2 => made_join hm hM (by omega) (.inr ⟨xs, els, rfl, rfl, rfl⟩) g1 g2⟩
  · -- copy
    split at h
    case h_2 => exact h.elim
    rename_i t tr dst x hts
    simp only [VRs] at ha
    obtain ⟨cd, cr, rfl, hd, cx, cr2, rfl, hx, rfl⟩ := ha
    have ht0 : ts[0]? = some t := by
      have : ts.toList[0]? = some t := by rw [hts]; rfl
      simpa using this
    split at h
    case h_2 => exact h.elim
    rename_i b off len cap
    split at h
    case h_2 => exact h.elim
    rename_i e ht
    split at h
    case h_2 => exact h.elim
    rename_i ei hei
    split at h
    case h_2 => exact h.elim
    rename_i k hk h1
    have h1' := Nat.eq_of_beq_eq_true h1
    obtain ⟨src, h, hsrc⟩ := intsOf_sound hs hx h
    have hS := src_of_ints (P := P) hsrc
    obtain ⟨en, hen, h⟩ := entK_sound h
    split at h
    case h_2 => exact h.elim
    rename_i k' xs hro hob
    split at h
    case h_2 => exact h.elim
    rename_i hkk
    have hkk' := of_decide_eq_true hkk
    subst hkk'
    obtain ⟨hol, h⟩ := h
    obtain ⟨hblt, hK⟩ := setObjK_sound h
    have ho := hs.obj b en hen
    rw [hob, hro] at ho
    simp only [VR] at hd
    obtain ⟨hb, ad, c, rfl, hlc, hcap, had⟩ := hd
    obtain ⟨s1, s2, s3, s4⟩ := hS
    -- the cells that are copied
    let m := min src.length len
    have hsrcm : ∀ w', w'.heap = w.heap → (Builtin.firstCells 1 m cx).run P w' = .ok ((src.take m).map (Value.int k)).toArray w' := by
      intro w' hw'
      rcases hsrc with ⟨rfl, rfl⟩ | ⟨l, rfl, rfl, rfl⟩ | ⟨ad2, c2, rfl, hc⟩
      · simp [Builtin.firstCells]
      · simp only [Builtin.firstCells, Sem.run_pure]
        congr 1
        apply Array.ext'
        have hh := Lib.extract_data ⟨l.toArray⟩ 0 m
        simp only [Array.toList_map]
        rw [hh]
        clear_value m
        simp [bytesOfStr, List.map_take, Function.comp_def]
      · have := run_loadCells_list (P := P) w' ad2 ((src.take m).map (Value.int k)) (fun j v hv => by
          rw [cell_heap hw']
          refine hc j v ?_
          rw [List.getElem?_map] at hv ⊢
          have hj : j < m := by
            rcases Nat.lt_or_ge j m with g | g
            · exact g
            · rw [List.getElem?_eq_none (by simp; omega)] at hv; cases hv
          rwa [List.getElem?_take_of_lt hj] at hv)
        rw [List.length_map, List.length_take, Nat.min_eq_left (Nat.min_le_left _ _)] at this
        simpa [Builtin.firstCells] using this
    have hml : m ≤ len := Nat.min_le_right _ _
    have hms : m ≤ src.length := Nat.min_le_left _ _
    have hnl : ((src.take m).map (Value.int k)).length = m := by simp; omega
    by_cases hlive : (AObj.ints k xs).lv (ρ b) = true
    case neg =>
      rcases lv_not hlive with hg | ⟨hnr, hem⟩
      · cases hg
      have hx0 : xs = [] := by
        rcases hem with ⟨k', hk'⟩ | hk'
        · cases hk'; rfl
        · cases hk'
      subst hx0
      have hl0 : len = 0 := by simp at hol; omega
      have hm0 : m = 0 := by omega
      have hset := hs.dull hen (.ints k (List.take off [] ++ src.take m ++ List.drop (off + m) [])) (by rw [hm0]; simpa using hlive)
      have hst : (match ad with | some a => storeCells a ((src.take m).map (Value.int k)) | none => pure ()).run P w = .ok () w := by
        rw [hm0]; cases ad <;> rfl
      refine lift (Builtin.copy_ ts ty #[.slice ad len c, cx]) ⟨_, goInt (m : Int), _, ρ, _, hK, ?_, by simp only [VR]; rfl, hset, by simp [dropV_length], fun _ _ => rfl⟩ rfl
      simp only [Builtin.copy_, ht0, List.getElem?_toArray, List.getElem?_cons_zero, List.getElem?_cons_succ, Sem.run_bind, run_underlying (hT.u_slice ht), Result.andThen_ok, s1, hT.size hei w, h1']
      rw [show Nat.min src.length len = m from rfl, hsrcm w rfl]
      simp only [Result.andThen_ok, Sem.run_bind, Sem.run_pure]
      cases ad <;> simp only at hst ⊢ <;> simp only [Sem.run_bind, Sem.run_pure, hst, Result.andThen_ok]
    obtain ⟨q1, cells, cty, fz, q2, q3, q4, q5, q6⟩ := ho hlive
    obtain ⟨cells', p1, p2, p3, p4, p5, p6, p7, p8, p9, p10⟩ := setCells_facts ((src.take m).map (Value.int k)) (ρ b).blk ((ρ b).base + off) w cells cty fz q2 (by rw [hnl]; omega)
    rw [hnl] at p3 p4
    have hst : (match ad with | some a => storeCells a ((src.take m).map (Value.int k)) | none => pure ()).run P w = .ok () (w.setCells (ρ b).blk ((ρ b).base + off) ((src.take m).map (Value.int k))) := by
      rcases had with rfl | ⟨rfl, _⟩
      · have hm0 : m = 0 := by omega
        have : (src.take m).map (Value.int k) = [] := by rw [hm0]; simp
        rw [this]; cases ad <;> rfl
      · simp only
        rw [q1, Nat.mul_one]
        refine store_cells q2 (q4 rfl) (by rw [hnl]; omega) (fun u hu => ?_)
        obtain ⟨y, hy, hyu⟩ := List.mem_map.mp hu
        rw [← hyu]; rfl
    have hset := hs.set (w' := w.setCells (ρ b).blk ((ρ b).base + off) ((src.take m).map (Value.int k))) hen hro (by rw [hob]; exact hlive) (.ints k (xs.take off ++ src.take m ++ xs.drop (off + m))) p5 p6 p7 p8 p9 (by
      refine fun _ => ⟨q1, cells', cty, fz, p1, by rw [p2]; exact q3, fun _ => by rw [p2]; exact q4 rfl, by simp; omega, fun j hj => ?_⟩
      have hj' : j < xs.length := by simp at hj; omega
      by_cases hr : j < off ∨ off + m ≤ j
      · rw [p3 _ (by omega), q6 j hj']
        congr 2
        simp only [List.getD]
        congr 1
        rcases hr with hr | hr
        · rw [List.append_assoc, List.getElem?_append_left (by simp; omega), List.getElem?_take_of_lt hr]
        · rw [List.getElem?_append_right (by simp; omega), List.getElem?_drop]
          congr 1; simp; omega
      · have := p4 (j - off) (by omega)
        rw [show (ρ b).base + off + (j - off) = (ρ b).base + j by omega] at this
        rw [this, List.getElem?_map]
        have e1 : (xs.take off ++ src.take m ++ xs.drop (off + m)).getD j 0 = src.getD (j - off) 0 := by
          simp only [List.getD]
          rw [List.append_assoc, List.getElem?_append_right (by simp; omega), List.getElem?_append_left (by simp; omega), List.getElem?_take_of_lt (by simp; omega)]
          congr 2; simp; omega
        rw [e1, List.getElem?_take_of_lt (by omega), List.getElem?_eq_getElem (by omega)]
        simp [List.getD, List.getElem?_eq_getElem (show j - off < src.length by omega)])
    refine lift (Builtin.copy_ ts ty #[.slice ad len c, cx]) ⟨_, goInt (m : Int), _, ρ, _, hK, ?_, by simp only [VR]; rfl, hset, by simp [dropV_length], fun _ _ => rfl⟩ rfl
    simp only [Builtin.copy_, ht0, List.getElem?_toArray, List.getElem?_cons_zero, List.getElem?_cons_succ, Sem.run_bind, run_underlying (hT.u_slice ht), Result.andThen_ok, s1, hT.size hei w, h1']
    rw [show Nat.min src.length len = m from rfl, hsrcm w rfl]
    simp only [Result.andThen_ok, Sem.run_bind, Sem.run_pure]
    cases ad with
    | none =>
      simp only [Sem.run_pure] at hst ⊢
      have hww := (Result.ok.inj hst).2
      rw [← hww]
    | some a =>
      simp only at hst ⊢
      simp only [Sem.run_bind, Sem.run_pure, hst, Result.andThen_ok]
  · exact h.elim
end
end Go.Aw
end
