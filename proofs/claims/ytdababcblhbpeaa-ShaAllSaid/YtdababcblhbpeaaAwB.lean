/-
  AwB: the evaluator of the abstract machine: one operation, a region, a piece of code, all told by what comes behind ('K'),
  so that the head of a goal can be brought to its form by 'whnf' alone. Own work of this session.
-/
import Derived.Test.YtdababcblhbpeaaAwA
set_option linter.unusedVariables false
set_option linter.unusedSimpArgs false
namespace Go.Aw

abbrev Kont := AV → Hp → Prop

def shlI (k : IntKind) (x y : Int) : Int := k.wrap (x * 2 ^ (min y.toNat k.bits))
def shrI (k : IntKind) (x y : Int) : Int := x.fdiv (2 ^ (min y.toNat k.bits))
def andI (k : IntKind) (x y : Int) : Int := k.wrap ((BitVec.ofInt k.bits x &&& BitVec.ofInt k.bits y).toNat : Int)
def orI (k : IntKind) (x y : Int) : Int := k.wrap ((BitVec.ofInt k.bits x ||| BitVec.ofInt k.bits y).toNat : Int)
def xorI (k : IntKind) (x y : Int) : Int := k.wrap ((BitVec.ofInt k.bits x ^^^ BitVec.ofInt k.bits y).toNat : Int)

/-- a test that the head decides -/
def tt (b : Bool) (X : Prop) : Prop := match b with | true => X | false => False

/-! ### slots -/
def getK (t : Nat) : Fr → (AV → Prop) → Prop
  | [], K => K .top
  | (u, v) :: r, K => match Nat.beq u t with | true => K v | false => getK t r K
def putK (t : Nat) (v : AV) : Fr → (Fr → Prop) → Prop
  | [], K => K [(t, v)]
  | (u, x) :: r, K => match Nat.beq u t with | true => K ((t, v) :: r) | false => putK t v r fun r' => K ((u, x) :: r')
def keepK (keep : Nat → Bool) : Fr → (Fr → Prop) → Prop
  | [], K => K []
  | (u, x) :: r, K => match keep u with | true => keepK keep r (fun r' => K ((u, x) :: r')) | false => keepK keep r K

def acon : Value → AV
  | .int k n => .int k n
  | .bool b => .bool b
  | .string s => .str s.data.toList
  | .pointer none => .con (.pointer none)
  | .slice none 0 0 => .con (.slice none 0 0)
  | .map none => .con (.map none)
  | .nilFunc => .con .nilFunc
  | .nilIface => .con .nilIface
  | _ => .top
def avK (fr : Fr) (o : Operand) (K : AV → Prop) : Prop :=
  match o with
  | .tmp t => getK t fr K
  | .const v => (match v with
    | .int k n => K (.int k n)
    | .bool b => K (.bool b)
    | .string s => K (.str s.data.toList)
    | .pointer none => K (.con (.pointer none))
    | .slice none 0 0 => K (.con (.slice none 0 0))
    | .map none => K (.con (.map none))
    | .nilFunc => K (.con .nilFunc)
    | .nilIface => K (.con .nilIface)
    | _ => K .top)
  | .func f => K (.fn f [])
  | .global _ => K .top
def avsK (fr : Fr) : List Operand → (List AV → Prop) → Prop
  | [], K => K []
  | o :: r, K => avK fr o fun v => avsK fr r fun vs => K (v :: vs)
def avpK (fr : Fr) : List (Nat × Operand) → (List (Nat × AV) → Prop) → Prop
  | [], K => K []
  | (i, o) :: r, K => avK fr o fun v => avpK fr r fun vs => K ((i, v) :: vs)
def avoK (fr : Fr) : Option Operand → (Option AV → Prop) → Prop
  | none, K => K none
  | some o, K => avK fr o fun v => K (some v)

/-! ### blocks -/
def entK : Hp → Nat → (Ent → Prop) → Prop
  | [], _, _ => False
  | e :: r, b, K => match b with | 0 => K e | b + 1 => entK r b K
def setEntK : Hp → Nat → Ent → (Hp → Prop) → Prop
  | [], _, _, _ => False
  | e :: r, b, x, K => match b with | 0 => K (x :: r) | b + 1 => setEntK r b x fun r' => K (e :: r')
def dropViewsK (b : Nat) : Hp → (Hp → Prop) → Prop
  | [], K => K []
  | e :: r, K => match e.par with
    | some p => (match Nat.beq p b with
      | true => dropViewsK b r fun r' => K (⟨e.esz, e.ro, e.par, .gone⟩ :: r')
      | false => dropViewsK b r fun r' => K (e :: r'))
    | none => dropViewsK b r fun r' => K (e :: r')
def newEntK (e : Ent) : Hp → (Nat → Hp → Prop) → Prop
  | [], K => K 0 [e]
  | x :: r, K => newEntK e r fun n r' => K (n + 1) (x :: r')
def setObjK (hp : Hp) (b : Nat) (e : Ent) (o : AObj) (K : Hp → Prop) : Prop :=
  dropViewsK b hp fun hp' => setEntK hp' b ⟨e.esz, e.ro, e.par, o⟩ K

/-! ### lists of cells -/
def dropK : List AV → Nat → (List AV → Prop) → Prop
  | vs, 0, K => K vs
  | [], _ + 1, _ => False
  | v :: vs, n + 1, K => match Nat.ble v.sz (n + 1) with | true => dropK vs (n + 1 - v.sz) K | false => False
def takeK : List AV → Nat → (List AV → Prop) → Prop
  | _, 0, K => K []
  | [], _ + 1, _ => False
  | v :: vs, n + 1, K => match Nat.ble v.sz (n + 1) with | true => takeK vs (n + 1 - v.sz) (fun r => K (v :: r)) | false => False
def appK : List AV → List AV → (List AV → Prop) → Prop
  | [], b, K => K b
  | v :: a, b, K => appK a b fun r => K (v :: r)
def putSegsK (new : List AV) : List AV → Nat → (List AV → Prop) → Prop
  | vs, 0, K => dropK vs (asz new) fun r => appK new r K
  | [], _ + 1, _ => False
  | v :: vs, n + 1, K => match Nat.ble v.sz (n + 1) with | true => putSegsK new vs (n + 1 - v.sz) (fun r => K (v :: r)) | false => False
def loadSegK : List AV → Nat → Nat → (AV → Prop) → Prop
  | [], _, _, _ => False
  | v :: vs, 0, j, K => (match v with
    | .ints k n xs => j < n ∧ K (.int k (xs.getD j 0))
    | v => match v.isCell, Nat.beq j 0 with | true, true => K v | _, _ => False)
  | v :: vs, n + 1, j, K => match Nat.ble v.sz (n + 1) with | true => loadSegK vs (n + 1 - v.sz) j K | false => False
def storeSegK (x : AV) : List AV → Nat → Nat → (List AV → Prop) → Prop
  | [], _, _, _ => False
  | v :: vs, 0, j, K => (match v with
    | .ints k n xs => (match x with
      | .int k' m => match decide (k = k') with | true => j < n ∧ K (.ints k n (xs.set j m) :: vs) | false => False
      | _ => False)
    | v => match x.isCell, Nat.beq j 0 with | true, true => K (x :: vs) | _, _ => False)
  | v :: vs, n + 1, j, K => match Nat.ble v.sz (n + 1) with | true => storeSegK x vs (n + 1 - v.sz) j (fun r => K (v :: r)) | false => False

/-! ### parts of literals -/
def repK {α : Type} (x : α) : Nat → (List α → Prop) → Prop
  | 0, K => K []
  | n + 1, K => repK x n fun r => K (x :: r)
def setIntK (n : Int) : List Int → Nat → (List Int → Prop) → Prop
  | [], _, _ => False
  | x :: r, i, K => match i with | 0 => K (n :: r) | i + 1 => setIntK n r i fun r' => K (x :: r')
def setElK (v : List AV) : List (List AV) → Nat → (List (List AV) → Prop) → Prop
  | [], _, _ => False
  | x :: r, i, K => match i with | 0 => K (v :: r) | i + 1 => setElK v r i fun r' => K (x :: r')
def AV.isAgg : AV → Bool
  | .agg _ => true
  | _ => false
def partsSK (T : Tab) (fs : List (Nat × TypeId)) : List (Nat × AV) → List AV → (List AV → Prop) → Prop
  | [], segs, K => K segs
  | (i, v) :: r, segs, K => match fs[i]? with
    | some f => (match T f.2 with
      | some fi => (match Nat.beq (asz v.segs) fi.sz, v.isCell || v.isAgg with
        | true, true => putSegsK v.segs segs f.1 fun s => partsSK T fs r s K
        | _, _ => False)
      | none => False)
    | none => False
def partsIK (k : IntKind) : List (Nat × AV) → List Int → (List Int → Prop) → Prop
  | [], acc, K => K acc
  | (i, v) :: r, acc, K => match v with
    | .int k' n => (match decide (k = k') with | true => setIntK n acc i fun acc' => partsIK k r acc' K | false => False)
    | _ => False
def partsRK (sz : Nat) : List (Nat × AV) → List (List AV) → (List (List AV) → Prop) → Prop
  | [], acc, K => K acc
  | (i, v) :: r, acc, K => match Nat.beq (asz v.segs) sz, v.isCell || v.isAgg with | true, true => setElK v.segs acc i fun acc' => partsRK sz r acc' K | _, _ => False

/-! ### two values of plain data, held against each other -/
def eqsK : List AV → List AV → (Bool → Prop) → Prop
  | [], [], K => K true
  | v :: vs, u :: us, K => (match v, u with
    | .int k a, .int k' b => (match decide (k = k') with | true => eqsK vs us fun r => K ((a == b) && r) | false => False)
    | .bool a, .bool b => eqsK vs us fun r => K ((a == b) && r)
    | .str a, .str b => eqsK vs us fun r => K ((a == b) && r)
    | .ints k n a, .ints k' n' b => (match decide (k = k'), Nat.beq n n' with | true, true => eqsK vs us fun r => K ((a == b) && r) | _, _ => False)
    | _, _ => False)
  | _, _, _ => False
/-- do some cells fit a type of plain data? what is left behind them -/
def fitsF (g : TypeId → List AV → Option (Nat × List AV)) : List (Nat × TypeId) → Nat → List AV → Option (Nat × List AV)
  | [], o, s => some (o, s)
  | f :: fs, o, s => match Nat.beq f.1 o with
    | true => (match g f.2 s with
      | some r => fitsF g fs (o + r.1) r.2
      | none => none)
    | false => none
def fits (T : Tab) : Nat → TypeId → List AV → Option (Nat × List AV)
  | 0, _, _ => none
  | d + 1, t, s => match T t with
    | some i => (match i.d with
      | .int k => (match s with
        | .int k' _ :: r => (match decide (k = k') with | true => some (1, r) | false => none)
        | _ => none)
      | .bool => (match s with | .bool _ :: r => some (1, r) | _ => none)
      | .str => (match s with | .str _ :: r => some (1, r) | _ => none)
      | .array n e => (match td T e, s, i.eq with
        | .int k, .ints k' m _ :: r, true => (match decide (k = k'), Nat.beq m n, Nat.beq i.sz n with | true, true, true => some (n, r) | _, _, _ => none)
        | _, _, _ => none)
      | .struct fs => (match i.eq with | true => (match fitsF (fits T d) fs 0 s with | some r => (match Nat.beq i.sz r.1 with | true => some r | false => none) | none => none) | false => none)
      | _ => none)
    | none => none
def fitsAll (T : Tab) (t : TypeId) (s : List AV) : Bool := match T t with | some i => (match i.d.agg, i.eq, fits T 8 t s with | true, true, some (_, []) => true | _, _, _ => false) | none => false

def strLt : List UInt8 → List UInt8 → Bool
  | _, [] => false
  | [], _ :: _ => true
  | a :: x, b :: y => a < b || (a == b && strLt x y)

def evIntBin (op : BinOp) (k : IntKind) (a b : Int) (K : AV → Prop) : Prop :=
  match op with
  | .add => K (.int k (k.wrap (a + b)))
  | .sub => K (.int k (k.wrap (a - b)))
  | .mul => K (.int k (k.wrap (a * b)))
  | .quo => b ≠ 0 ∧ K (.int k (k.wrap (a.tdiv b)))
  | .rem => b ≠ 0 ∧ K (.int k (a.tmod b))
  | .and => K (.int k (andI k a b))
  | .or => K (.int k (orI k a b))
  | .xor => K (.int k (xorI k a b))
  | .lss => K (.bool (decide (a < b)))
  | .leq => K (.bool (decide (a ≤ b)))
  | .gtr => K (.bool (decide (a > b)))
  | .geq => K (.bool (decide (a ≥ b)))
  | .eql => K (.bool (a == b))
  | .neq => K (.bool (a != b))
  | _ => False

def evBin (T : Tab) (op : BinOp) (t : TypeId) (x y : AV) (K : AV → Prop) : Prop :=
  match x with
  | .int k a => (match y with
    | .int k' b => (match op with
      | .shl => 0 ≤ b ∧ K (.int k (shlI k a b))
      | .shr => 0 ≤ b ∧ K (.int k (shrI k a b))
      | op => match decide (k = k') with | true => evIntBin op k a b K | false => False)
    | _ => False)
  | .str a => (match y with
    | .str b => (match op with
      | .eql => K (.bool (a == b))
      | .neq => K (.bool (!(a == b)))
      | .lss => K (.bool (strLt a b))
      | .add => a.length + b.length ≤ 1099511627776 ∧ K (.str (a ++ b))
      | _ => False)
    | _ => False)
  | .bool a => (match y with
    | .bool b => (match op, td T t with
      | .eql, .bool => K (.bool (a == b))
      | .neq, .bool => K (.bool (!(a == b)))
      | _, _ => False)
    | _ => False)
  | .agg a => (match y with
    | .agg b => (match op, fitsAll T t a, fitsAll T t b with
      | .eql, true, true => eqsK a b fun r => K (.bool r)
      | .neq, true, true => eqsK a b fun r => K (.bool (!r))
      | _, _, _ => False)
    | _ => False)
  | .sl _ _ len _ => (match y with
    | .con (.slice none 0 0) => (match op, td T t with
      | .eql, .slice _ => 0 < len ∧ K (.bool false)
      | .neq, .slice _ => 0 < len ∧ K (.bool true)
      | _, _ => False)
    | _ => False)
  | .ptr _ _ _ _ => (match y with
    | .con (.pointer none) => (match op, td T t with
      | .eql, .ptr => K (.bool false)
      | .neq, .ptr => K (.bool true)
      | _, _ => False)
    | _ => False)
  | .con (.slice none 0 0) => (match y with
    | .con (.slice none 0 0) => (match op, td T t with
      | .eql, .slice _ => K (.bool true)
      | .neq, .slice _ => K (.bool false)
      | _, _ => False)
    | _ => False)
  | .con (.pointer none) => (match y with
    | .con (.pointer none) => (match op, td T t with
      | .eql, .ptr => K (.bool true)
      | .neq, .ptr => K (.bool false)
      | _, _ => False)
    | _ => False)
  | _ => False

def evUn (op : UnOp) (x : AV) (K : AV → Prop) : Prop :=
  match op, x with
  | .neg, .int k n => K (.int k (k.wrap (0 - n)))
  | .not, .bool b => K (.bool (!b))
  | _, _ => False

def bytesOfStr (l : List UInt8) : List Int := l.map fun b => (b.toNat : Int)
def strOfBytes (xs : List Int) : List UInt8 := xs.map fun n => UInt8.ofNat n.toNat

def intsOf (hp : Hp) (k : IntKind) (x : AV) (K : List Int → Prop) : Prop :=
  match x with
  | .con (.slice none 0 0) => K []
  | .str l => (match k with | .u8 => K (bytesOfStr l) | _ => False)
  | .sl b off len _ => entK hp b fun e => match e.o with
    | .ints k' xs => (match decide (k = k') with | true => off + len ≤ xs.length ∧ K ((xs.drop off).take len) | false => False)
    | _ => False
  | _ => False
def rowOf (hp : Hp) (sz : Nat) (x : AV) (K : List (List AV) → Prop) : Prop :=
  match x with
  | .con (.slice none 0 0) => K []
  | .sl b off len _ => entK hp b fun e => match e.o with
    | .row els => (match Nat.beq e.esz sz with | true => off + len ≤ els.length ∧ K ((els.drop off).take len) | false => False)
    | _ => False
  | _ => False

def roomMost : Nat := 4294967296      -- 2^32

/-- an append: 'base' is nil, or lies in a block of ours; the new slice lies in a block of a new number, the elder one is gone -/
def evAppend (hp : Hp) (esz : Nat) (base : AV) (n : Nat) (fresh : AObj) (mk : Nat → Nat → AObj → (AObj → Prop) → Prop) (K : Kont) : Prop :=
  match base with
  | .con (.slice none 0 0) =>
    (n = 0 → K (.con (.slice none 0 0)) hp) ∧ (0 < n → n ≤ roomMost ∧ newEntK ⟨esz, false, none, fresh⟩ hp fun b hp' => K (.sl b 0 n none) hp')
  | .sl b off len cap => entK hp b fun e => match e.ro, Nat.beq e.esz esz with
    | false, true => len + n ≤ roomMost ∧ mk off len e.o fun o => setObjK hp b e .gone fun hp' => newEntK ⟨esz, false, none, o⟩ hp' fun b' hp'' => K (.sl b' 0 (len + n) none) hp''
    | _, _ => False
  | _ => False

def evBuiltin (T : Tab) (hp : Hp) (b : Builtin) (ts : List TypeId) (args : List AV) (K : Kont) : Prop :=
  match b with
  | .len => (match ts, args with
    | t :: _, [x] => (match x with
      | .str l => (match td T t with | .str => K (.int .i64 (l.length : Int)) hp | _ => False)
      | .sl _ _ len _ => (match td T t with | .slice _ => K (.int .i64 (len : Int)) hp | _ => False)
      | .con (.slice none 0 0) => (match td T t with | .slice _ => K (.int .i64 0) hp | _ => False)
      | _ => (match td T t with | .array n _ => K (.int .i64 (n : Int)) hp | _ => False))
    | _, _ => False)
  | .min => (match args with
    | [.int k a, .int k' b] => K (.int k (if b < a then b else a)) hp
    | _ => False)
  | .max => (match args with
    | [.int k a, .int k' b] => K (.int k (if b > a then b else a)) hp
    | [.int k a, .int k' b, .int k'' c] => K (.int k (if c > (if b > a then b else a) then c else (if b > a then b else a))) hp
    | _ => False)
  | .append => (match ts, args with
    | [t, t2], [base, x] => (match (match td T t2 with | .slice _ => true | .str => true | _ => false), td T t with
     | true, d => (match d with
      | .slice e => (match T e with
        | some ei => (match ei.d with
          | .int k => (match Nat.beq ei.sz 1, Nat.ble ei.bys 8 with
            | true, true => intsOf hp k x fun src =>
                evAppend hp 1 base src.length (.ints k src) (fun off len o Ko => match o with
                  | .ints k' xs => (match decide (k = k') with | true => off + len ≤ xs.length ∧ Ko (.ints k ((xs.drop off).take len ++ src)) | false => False)
                  | _ => False) K
            | _, _ => False)
          | _ => (match Nat.ble 1 ei.sz, Nat.ble ei.bys 8192 with
            | true, true => rowOf hp ei.sz x fun src =>
                evAppend hp ei.sz base src.length (.row src) (fun off len o Ko => match o with
                  | .row els => off + len ≤ els.length ∧ Ko (.row ((els.drop off).take len ++ src))
                  | _ => False) K
            | _, _ => False))
        | none => False)
      | _ => False)
     | false, _ => False)
    | _, _ => False)
  | .copy => (match ts, args with
    | t :: _, [dst, x] => (match dst with
      | .sl b off len cap => (match td T t with
        | .slice e => (match T e with
          | some ei => (match ei.d, Nat.beq ei.sz 1 with
            | .int k, true => intsOf hp k x fun src => entK hp b fun en => (match en.ro, en.o with
              | false, .ints k' xs => (match decide (k = k') with
                | true => off + len ≤ xs.length ∧ setObjK hp b en (.ints k' (xs.take off ++ src.take (min src.length len) ++ xs.drop (off + min src.length len)))
                    fun hp' => K (.int .i64 (min src.length len : Nat)) hp'
                | false => False)
              | _, _ => False)
            | _, _ => False)
          | none => False)
        | _ => False)
      | _ => False)
    | _, _ => False)
  | _ => False

/-- the bounds of a slice expression -/
def bndK (x : Option AV) (dflt : Nat) (K : Nat → Prop) : Prop :=
  match x with
  | none => K dflt
  | some v => match v with
    | .int _ n => 0 ≤ n ∧ K n.toNat
    | _ => False

def evLoad (T : Tab) (hp : Hp) (t : TypeId) (a : AV) (K : AV → Prop) : Prop :=
  match a with
  | .ptr b x off j => (match T t with
    | some i => entK hp b fun e => (match e.o with
      | .ints k xs => (match i.d.agg, Nat.beq off 0, Nat.beq j 0 with | false, true, true => x < xs.length ∧ K (.int k (xs.getD x 0)) | _, _, _ => False)
      | .var vs => (match Nat.beq x 0 with
        | true => (match i.d.agg with
          | true => (match Nat.beq j 0 with | true => dropK vs off fun r => takeK r i.sz fun s => K (.agg s) | false => False)
          | false => loadSegK vs off j K)
        | false => False)
      | .row els => (match els[x]? with
        | some vs => (match i.d.agg with
          | true => (match Nat.beq j 0 with | true => dropK vs off fun r => takeK r i.sz fun s => K (.agg s) | false => False)
          | false => loadSegK vs off j K)
        | none => False)
      | .gone => False)
    | none => False)
  | _ => False

def evStoreIn (i : TI) (vs : List AV) (off j : Nat) (v : AV) (K : List AV → Prop) : Prop :=
  match i.d.agg with
  | true => (match Nat.beq j 0 with
    | true => (match v with
      | .agg s => (match Nat.beq (asz s) i.sz with | true => putSegsK s vs off K | false => False)
      | _ => False)
    | false => False)
  | false => (match Nat.beq i.sz 1 with | true => storeSegK v vs off j K | false => False)

def evStore (T : Tab) (hp : Hp) (t : TypeId) (a v : AV) (K : Hp → Prop) : Prop :=
  match a with
  | .ptr b x off j => (match T t with
    | some i => entK hp b fun e => (match e.ro with
      | false => (match e.o with
        | .ints k xs => (match i.d.agg, Nat.beq i.sz 1, Nat.beq off 0, Nat.beq j 0 with
          | false, true, true, true => (match v with
            | .int k' n => (match decide (k = k') with | true => x < xs.length ∧ setObjK hp b e (.ints k (xs.set x n)) K | false => False)
            | _ => False)
          | _, _, _, _ => False)
        | .var vs => (match Nat.beq x 0 with
          | true => evStoreIn i vs off j v fun vs' => setObjK hp b e (.var vs') K
          | false => False)
        | .row els => (match els[x]? with
          | some vs => evStoreIn i vs off j v fun vs' => setObjK hp b e (.row (els.set x vs')) K
          | none => False)
        | .gone => False)
      | true => False)
    | none => False)
  | _ => False

def evConv (T : Tab) (hp : Hp) (s d : TypeId) (x : AV) (K : Kont) : Prop :=
  match x with
  | .int _ n => (match td T s, td T d with | .int _, .int k => K (.int k (k.wrap n)) hp | _, _ => False)
  | .str l => (match td T s, td T d with
    | .str, .str => K (.str l) hp
    | .str, .slice e => (match td T e with
      | .int .u8 => l.length ≤ roomMost ∧ newEntK ⟨1, false, none, .ints .u8 (bytesOfStr l)⟩ hp fun b hp' => K (.sl b 0 l.length none) hp'
      | _ => False)
    | _, _ => False)
  | x => (match td T s, td T d with
    | .slice e, .str => (match td T e with
      | .int .u8 => intsOf hp .u8 x fun xs => K (.str (strOfBytes xs)) hp
      | _ => False)
    | .slice _, .slice e => (match td T e, Nat.beq s d, x with
      | .int .u8, true, .sl b off len cap => entK hp b fun en => (match en.ro, en.o with | false, .ints _ xs => 0 < len ∧ off + len ≤ xs.length ∧ K (.sl b off len cap) hp | _, _ => False)
      | _, _, _ => False)
    | _, _ => False)

def evSlice (T : Tab) (hp : Hp) (t : TypeId) (x : AV) (lo hi : Option AV) (K : Kont) : Prop :=
  match x with
  | .str l => (match td T t with
    | .str => bndK hi l.length fun h => bndK lo 0 fun a => a ≤ h ∧ h ≤ l.length ∧ K (.str ((l.take h).drop a)) hp
    | _ => False)
  | .sl b off len cap => (match td T t with
    | .slice e => (match T e with
      | some ei => entK hp b fun en => (match Nat.beq ei.sz en.esz with
        | true => bndK hi len fun h => bndK lo 0 fun a => a ≤ h ∧ (match cap with
          | some c => h ≤ c ∧ K (.sl b (off + a) (h - a) (some (c - a))) hp
          | none => h ≤ len ∧ K (.sl b (off + a) (h - a) none) hp)
        | false => False)
      | none => False)
    | _ => False)
  | .con (.slice none 0 0) => (match td T t with
    | .slice e => (match T e with
      | some ei => bndK hi 0 fun h => bndK lo 0 fun a => a = 0 ∧ h = 0 ∧ K (.con (.slice none 0 0)) hp
      | none => False)
    | _ => False)
  | .ptr b i off j => (match td T t with
    | .array n e => (match T e with
      | some ei => entK hp b fun en => (match en.ro, en.o, Nat.beq i 0, Nat.beq j 0, Nat.beq ei.sz 1 with
        | false, .var vs, true, true, true => bndK hi n fun h => bndK lo 0 fun a => a ≤ h ∧ h ≤ n ∧ dropK vs off fun r => (match r with
          | .ints k n' xs :: _ => (match Nat.beq n n' with
            | true => newEntK ⟨1, true, some b, .ints k xs⟩ hp fun b' hp' => K (.sl b' a (h - a) (some (n - a))) hp'
            | false => False)
          | _ => False)
        | _, _, _, _, _ => False)
      | none => False)
    | _ => False)
  | _ => False

def evIndexAddr (T : Tab) (hp : Hp) (t : TypeId) (x ix : AV) (K : AV → Prop) : Prop :=
  match ix with
  | .int _ q => (match x with
    | .ptr b i off j => (match td T t with
      | .array n e => (match T e with
        | some ei => (match Nat.beq ei.sz 1, Nat.beq j 0 with | true, true => 0 ≤ q ∧ q < (n : Int) ∧ K (.ptr b i off q.toNat) | _, _ => False)
        | none => False)
      | _ => False)
    | .sl b off len cap => (match td T t with
      | .slice e => (match T e with
        | some ei => entK hp b fun en => (match Nat.beq ei.sz en.esz with | true => 0 ≤ q ∧ q < (len : Int) ∧ K (.ptr b (off + q.toNat) 0 0) | false => False)
        | none => False)
      | _ => False)
    | _ => False)
  | _ => False

def evIndex (T : Tab) (t : TypeId) (x ix : AV) (K : AV → Prop) : Prop :=
  match ix with
  | .int _ q => (match x with
    | .str l => (match td T t with | .str => 0 ≤ q ∧ q < (l.length : Int) ∧ K (.int .u8 ((l.getD q.toNat 0).toNat : Int)) | _ => False)
    | .agg [.ints k n xs] => (match td T t with
      | .array n' e => (match T e with
        | some ei => (match Nat.beq ei.sz 1, ei.d.agg, Nat.beq n n' with | true, false, true => 0 ≤ q ∧ q < (n : Int) ∧ K (.int k (xs.getD q.toNat 0)) | _, _, _ => False)
        | none => False)
      | _ => False)
    | _ => False)
  | _ => False

def evFieldAddr (T : Tab) (s : TypeId) (x : AV) (f : Nat) (K : AV → Prop) : Prop :=
  match x with
  | .ptr b e off j => (match td T s with
    | .struct fs => (match fs[f]?, Nat.beq j 0 with
      | some o, true => (match T o.2 with
        | some fi => (match Nat.ble 1 fi.sz with | true => K (.ptr b e (off + o.1) 0) | false => False)
        | none => False)
      | _, _ => False)
    | _ => False)
  | _ => False

def evField (T : Tab) (s : TypeId) (x : AV) (f : Nat) (K : AV → Prop) : Prop :=
  match x with
  | .agg segs => (match td T s with
    | .struct fs => (match fs[f]? with
      | some o => (match T o.2 with
        | some fi => (match fi.d.agg with
          | true => dropK segs o.1 fun r => takeK r fi.sz fun s => K (.agg s)
          | false => loadSegK segs o.1 0 K)
        | none => False)
      | none => False)
    | _ => False)
  | _ => False

def evBuild (T : Tab) (t : TypeId) (parts : List (Nat × AV)) (K : AV → Prop) : Prop :=
  match T t with
  | some i => (match i.d with
    | .struct fs => partsSK T fs parts i.z fun s => K (.agg s)
    | .array n e => (match T e with
      | some ei => (match ei.d, Nat.beq ei.sz 1, i.z with
        | .int k, true, [.ints k' m zs] => (match decide (k = k'), Nat.beq m n with | true, true => partsIK k parts zs fun xs => K (.agg [.ints k n xs]) | _, _ => False)
        | _, _, _ => False)
      | none => False)
    | _ => False)
  | none => False

def evBuildSlice (T : Tab) (hp : Hp) (t : TypeId) (len : Nat) (parts : List (Nat × AV)) (K : Kont) : Prop :=
  match td T t with
  | .slice e => (match T e with
    | some ei => (match ei.d with
      | .int k => (match Nat.beq ei.sz 1, Nat.ble len 65536, ei.z with
        | true, true, [.int k' z0] => (match decide (k = k') with
          | true => repK z0 len fun z => partsIK k parts z fun xs => newEntK ⟨1, false, none, .ints k xs⟩ hp fun b hp' => K (.sl b 0 len (some len)) hp'
          | false => False)
        | _, _, _ => False)
      | _ => (match Nat.ble (len * ei.sz) 65536, Nat.ble 1 ei.sz with
        | true, true => repK ei.z len fun z => partsRK ei.sz parts z fun els => newEntK ⟨ei.sz, false, none, .row els⟩ hp fun b hp' => K (.sl b 0 len (some len)) hp'
        | _, _ => False))
    | none => False)
  | _ => False

def evMakeSlice (T : Tab) (hp : Hp) (t : TypeId) (l c : AV) (K : Kont) : Prop :=
  match l, c with
  | .int _ l, .int _ c => (match td T t with
    | .slice e => (match T e with
      | some ei => (match ei.d with
        | .int k => (match Nat.beq ei.sz 1, Nat.ble ei.bys 8, ei.z with
          | true, true, [.int k' z0] => (match decide (k = k') with
            | true => 0 ≤ l ∧ l ≤ c ∧ c ≤ (roomMost : Int) ∧ newEntK ⟨1, false, none, .ints k (List.replicate c.toNat z0)⟩ hp fun b hp' => K (.sl b 0 l.toNat (some c.toNat)) hp'
            | false => False)
          | _, _, _ => False)
        | _ => (match Nat.ble 1 ei.sz, Nat.ble ei.bys 8192 with
          | true, true => 0 ≤ l ∧ l ≤ c ∧ c ≤ (roomMost : Int) ∧ newEntK ⟨ei.sz, false, none, .row (List.replicate c.toNat ei.z)⟩ hp fun b hp' => K (.sl b 0 l.toNat (some c.toNat)) hp'
          | _, _ => False))
      | none => False)
    | _ => False)
  | _, _ => False

def evOp (T : Tab) (fr : Fr) (hp : Hp) (op : Op) (K : Kont) : Prop :=
  match op with
  | .move x => avK fr x fun v => K v hp
  | .assign x => avK fr x fun v => K v hp
  | .pick c a b => avK fr c fun g => (match g with
    | .bool g => (match g with | true => avK fr a fun v => K v hp | false => avK fr b fun v => K v hp)
    | _ => False)
  | .alloc t => (match T t with
    | some i => newEntK ⟨i.sz, false, none, .var i.z⟩ hp fun b hp' => K (.ptr b 0 0 0) hp'
    | none => False)
  | .box t x => (match T t with
    | some i => avK fr x fun v => (match Nat.beq (asz v.segs) i.sz, v.isCell || v.isAgg with
      | true, true => newEntK ⟨i.sz, false, none, .var v.segs⟩ hp fun b hp' => K (.ptr b 0 0 0) hp'
      | _, _ => False)
    | none => False)
  | .build t parts => avpK fr parts.toList fun ps => evBuild T t ps fun v => K v hp
  | .buildSlice t len parts => avpK fr parts.toList fun ps => evBuildSlice T hp t len ps K
  | .makeSlice t l c => avK fr l fun l => avK fr c fun c => evMakeSlice T hp t l c K
  | .load t a => avK fr a fun a => evLoad T hp t a fun v => K v hp
  | .store t a v => avK fr a fun a => avK fr v fun v => evStore T hp t a v fun hp' => K .top hp'
  | .nilCheck x => avK fr x fun x => (match x with
    | .ptr b i off j => K (.ptr b i off j) hp
    | .fn f caps => K (.fn f caps) hp
    | _ => False)
  | .binOp o t x y _ => avK fr x fun x => avK fr y fun y => evBin T o t x y fun v => K v hp
  | .unOp o _ x => avK fr x fun x => evUn o x fun v => K v hp
  | .convert s d x => avK fr x fun x => evConv T hp s d x K
  | .makeFunc f first caps => (match f, first.toList with
    | .func f, [] => avsK fr caps.toList fun cs => K (.fn f cs) hp
    | _, _ => False)
  | .slice t x lo hi mx => (match mx with
    | none => avK fr x fun x => avoK fr lo fun lo => avoK fr hi fun hi => evSlice T hp t x lo hi K
    | some _ => False)
  | .fieldAddr s x f => avK fr x fun x => evFieldAddr T s x f fun v => K v hp
  | .field s x f => avK fr x fun x => evField T s x f fun v => K v hp
  | .indexAddr t x ix => avK fr x fun x => avK fr ix fun ix => evIndexAddr T hp t x ix fun v => K v hp
  | .index t x ix => avK fr x fun x => avK fr ix fun ix => evIndex T t x ix fun v => K v hp
  | .extract x i => avK fr x fun x => (match x with
    | .tup vs => (match vs[i]? with
      | some v => K v hp
      | none => False)
    | _ => False)
  | .call c => (match c.callee with
    | .builtin b => avsK fr c.args.toList fun as => evBuiltin T hp b c.argTypes.toList as K
    | _ => False)
  | _ => False

abbrev CallsP := FuncId → List AV → Hp → (AV → Hp → Prop) → Prop
abbrev KN := Fr → Hp → Prop
/-- where code can go: on; out of a block; to a label; home -/
abbrev CodeP := Code → KN → List (Nat × KN) → (Nat → KN) → KN → Fr → Hp → Prop

/-- one operation, calls among them: 'A' says what calls do -/
def evOper (A : CallsP) (T : Tab) (fr : Fr) (hp : Hp) (op : Op) (K : Kont) : Prop :=
  match op with
  | .call c => (match c.callee with
    | .value f => avK fr f fun f => (match f with
      | .fn g caps => avsK fr c.args.toList fun as => appK as caps fun as => A g as hp K
      | _ => False)
    | _ => evOp T fr hp (.call c) K)
  | op => evOp T fr hp op K

def dstK (dst : Option Nat) (v : AV) (N : Nat) (fr : Fr) (K : Fr → Prop) : Prop :=
  match dst with
  | none => K fr
  | some d => match Nat.blt d N with | true => putK d v fr K | false => False

/-- one operation of a region, and what comes behind it ('K', told once) -/
def evStep (A : CallsP) (T : Tab) (N : Nat) (all : Array Oper) (o : Oper) (fr : Fr) (hp : Hp) (K : Fr → Hp → Prop) : Prop :=
  match o.guard with
  | none => evOper A T fr hp o.op fun v hp' => dstK o.dst v N fr fun fr' => K fr' hp'
  | some (j, want) => (match (all[j]?).bind (·.dst) with
    | some d => getK d fr fun g => (match g with
      | .bool g => (match g == want with
        | true => evOper A T fr hp o.op fun v hp' => dstK o.dst v N fr fun fr' => K fr' hp'
        | false => dstK o.dst (.tup []) N fr fun fr' => K fr' hp)
      | .tup [] => dstK o.dst (.tup []) N fr fun fr' => K fr' hp
      | _ => False)
    | none => False)
def evOps (A : CallsP) (T : Tab) (N : Nat) (all : Array Oper) : List Oper → Fr → Hp → (Fr → Hp → Prop) → Prop
  | [], fr, hp, K => K fr hp
  | o :: rest, fr, hp, K => evStep A T N all o fr hp fun fr' hp' => evOps A T N all rest fr' hp' K

def exitK : List (Nat × KN) → Nat → KN
  | [], _, _, _ => False
  | (i, K) :: r, id, fr, hp => match Nat.beq i id with | true => K fr hp | false => exitK r id fr hp

/-- the evaluator: it stands still at loops, scopes and regions that draw their order ('W') -/
def ev (A : CallsP) (W : CodeP) (T : Tab) (N : Nat) (keep : Nat → Bool) : Code → KN → List (Nat × KN) → (Nat → KN) → KN → Fr → Hp → Prop
  | .skip, Kn, E, G, R, fr, hp => Kn fr hp
  | .label _, Kn, E, G, R, fr, hp => Kn fr hp
  | .seq a b, Kn, E, G, R, fr, hp => ev A W T N keep a (fun fr' hp' => ev A W T N keep b Kn E G R fr' hp') E G R fr hp
  | .cond c a b, Kn, E, G, R, fr, hp => avK fr c fun g => (match g with
    | .bool g => (match g with | true => ev A W T N keep a Kn E G R fr hp | false => ev A W T N keep b Kn E G R fr hp)
    | _ => False)
  | .block id c, Kn, E, G, R, fr, hp => ev A W T N keep c Kn ((id, Kn) :: E) G R fr hp
  | .exit id, Kn, E, G, R, fr, hp => exitK E id fr hp
  | .goto l, Kn, E, G, R, fr, hp => G l fr hp
  | .ret, Kn, E, G, R, fr, hp => R fr hp
  | .region id ops draw, Kn, E, G, R, fr, hp => (match draw with
    | false => evOps A T N ops ops.toList fr hp fun fr' hp' => keepK keep fr' fun fr'' => Kn fr'' hp'
    | true => W (.region id ops true) Kn E G R fr hp)
  | .loop c, Kn, E, G, R, fr, hp => W (.loop c) Kn E G R fr hp
  | .scope c, Kn, E, G, R, fr, hp => W (.scope c) Kn E G R fr hp
  | .rangeFunc f ps a b, Kn, E, G, R, fr, hp => W (.rangeFunc f ps a b) Kn E G R fr hp
  | .refuse _, _, _, _, _, _, _ => False

end Go.Aw
