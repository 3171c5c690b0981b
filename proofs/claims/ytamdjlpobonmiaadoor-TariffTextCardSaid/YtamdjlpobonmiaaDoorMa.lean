/- Texts joined: what the proof of this law needs. -/
import Derived.WalkKit
import Derived.WalkLawsBesides
import Derived.Orders
import Derived.Lib.ItoaNum
import Derived.Lib.LaidTab
/- The shadow evaluator: a functional evaluator of the model's code over shadow memory. Definitions alone. -/
namespace Go.Proofs.YtamdjlpobonmiaaDoor
namespace Sh

inductive D where
  | int (k : IntKind) (n : Int)
  | bool (b : Bool)
  | str (s : ByteArray)
  | nil
  | slc (n e : Nat) (get : Nat → Nat → D)
instance : Inhabited D := ⟨.nil⟩

inductive C where
  | d (x : D)
  | own (r n e : Nat) (get : Nat → Nat → D)
  | ptr (b o : Nat)
  | ref (sz : Nat) (get : Nat → D)
  | fn (f : FuncId) (fs cs : List (Nat × Nat))
  | unk
instance : Inhabited C := ⟨.unk⟩

inductive U where
  | one (c : C)
  | agg (cs : List C)
instance : Inhabited U := ⟨.one .unk⟩

inductive V where
  | w (u : U)
  | tup (us : List U)
  | any
instance : Inhabited V := ⟨.tup []⟩

inductive B where
  | var (cs : List C)
  | tick (n e : Nat)
  | gone
instance : Inhabited B := ⟨.gone⟩

abbrev vi (n : Int) : V := .w (.one (.d (.int .i64 n)))
abbrev vb (b : Bool) : V := .w (.one (.d (.bool b)))

def ofC : Value → C
  | .int k n => .d (.int k n)
  | .bool b => .d (.bool b)
  | .string s => .d (.str s)
  | .slice none 0 0 => .d .nil
  | _ => .unk
def opnd (ts : List V) : Operand → V
  | .tmp t => ts.getD t (.tup [])
  | .const v => bif v.oneCell' then .w (.one (ofC v)) else .any
  | .global _ => .w (.one .unk)
  | .func f => .w (.one (.fn f [] []))

def kindOf (P : Program) (t : TypeId) : Option Bool :=
  match P.underlying t with
  | some (.struct _) => some true
  | some (.array _ _) => some true
  | some _ => some false
  | none => none

def zeroC (P : Program) (t : TypeId) : Option (List C) :=
  match P.info? t with
  | some i => match i.zero with
    | some v => bif v.cells.toList.all Value.oneCell' then some (v.cells.toList.map ofC) else none
    | none => none
  | none => none

def cellE (P : Program) : Nat → TypeId → List Nat
  | 0, _ => []
  | n + 1, t => match P.underlying t with
    | some (.struct fs) => fs.toList.flatMap fun f => cellE P n f.type
    | some (.array k e) => (List.replicate k (cellE P n e)).flatten
    | some (.slice e) => [P.cellsOf e + 1]
    | some _ => [0]
    | none => []

def dg : Nat → Nat → D := fun _ _ => .nil

/-- Nil slices become rows of length 0 of our own. -/
def nilOwn : List Nat → List C → Nat → List C × List B
  | e :: es, c :: cs, s =>
    match c, e with
    | .d .nil, e + 1 => let r := nilOwn es cs (s + 1); (.own s 0 e dg :: r.1, .tick 0 e :: r.2)
    | c, _ => let r := nilOwn es cs s; (c :: r.1, r.2)
  | [], cs, _ => (cs, [])
  | _, [], _ => ([], [])

def ucells : U → List C
  | .one c => [c]
  | .agg cs => cs

def setAt {α : Type} (cs : List α) (off : Nat) (vs : List α) : List α := cs.take off ++ vs ++ cs.drop (off + vs.length)

def toD : C → Option D
  | .d .nil => some (.slc 0 0 dg)
  | .d x => some x
  | .own _ n e g => some (.slc n e g)
  | _ => none

def toDs : List C → Option (List D)
  | [] => some []
  | c :: cs => match toD c, toDs cs with
    | some x, some xs => some (x :: xs)
    | _, _ => none

/-- An argument as a callee's contract sees it. -/
def argC : C → C
  | .d .nil => .d (.slc 0 0 dg)
  | .own _ n e g => .d (.slc n e g)
  | c => c
def argU : U → U
  | .one c => .one (argC c)
  | .agg cs => .agg (cs.map argC)
def argV : V → V
  | .w u => .w (argU u)
  | .tup us => .tup (us.map argU)
  | .any => .any

def look : List (Nat × B) → Nat → Option B
  | [], _ => none
  | (a, b) :: m, r => bif Nat.beq a r then some b else look m r
def put : List (Nat × B) → Nat → B → List (Nat × B)
  | [], _, _ => []
  | (a, b) :: m, r, x => bif Nat.beq a r then (a, x) :: m else (a, b) :: put m r x

structure Out where
  ok : Bool
  v : V
  m : List (Nat × B)
  al : List B

def fillU (place : Nat → Option (Nat × Nat)) : List (Nat × U) → List C → Option (List C)
  | [], cs => some cs
  | (i, u) :: rest, cs =>
    match place i with
    | none => none
    | some (off, size) =>
      bif Nat.beq (ucells u).length size && Nat.ble (off + size) cs.length then fillU place rest (setAt cs off (ucells u)) else none

def builtC (P : Program) (t : TypeId) (us : List (Nat × U)) : Option (List C) :=
  match P.info? t, P.underlying t with
  | some _, some (.array _ e) =>
    match zeroC P t, P.info? e with
    | some z, some ie => fillU (fun i => some (i * ie.size, ie.size)) us z
    | _, _ => none
  | some _, some (.struct fields) =>
    match zeroC P t, fields.toList.mapM (fun f => (P.info? f.type).map fun i => (f.offset, i.size)) with
    | some z, some places => fillU (fun i => places.toArray[i]?) us z
    | _, _ => none
  | _, _ => none

def partsU (ev : Operand → V) : List (Nat × Operand) → Option (List (Nat × U))
  | [] => some []
  | (i, x) :: rest => match ev x, partsU ev rest with
    | .w u, some l => some ((i, u) :: l)
    | _, _ => none

def argsU (ev : Operand → V) : List Operand → Option (List U)
  | [] => some []
  | x :: rest => match ev x, argsU ev rest with
    | .w u, some l => some (u :: l)
    | _, _ => none

def ptrsOf (ev : Operand → V) : List Operand → Option (List (Nat × Nat))
  | [] => some []
  | x :: rest => match ev x, ptrsOf ev rest with
    | .w (.one (.ptr b o)), some l => some ((b, o) :: l)
    | _, _ => none

def ptrU (p : Nat × Nat) : U := .one (.ptr p.1 p.2)

def fieldOf (P : Program) (s f : Nat) : Option (Nat × Nat) :=
  match P.underlying s with
  | some (.struct fs) => match fs[f]? with
    | some x => match P.info? x.type with
      | some i => some (x.offset, i.size)
      | none => none
    | none => none
  | _ => none

def eqCs : List C → List C → Option Bool
  | [], [] => some true
  | .d (.int k a) :: xs, .d (.int k' b) :: ys => match decide (k = k'), eqCs xs ys with
    | true, some r => some (decide (a = b) && r)
    | _, _ => none
  | .d (.bool a) :: xs, .d (.bool b) :: ys => match eqCs xs ys with
    | some r => some ((a == b) && r)
    | none => none
  | .d (.str a) :: xs, .d (.str b) :: ys => match eqCs xs ys with
    | some r => some ((a.toList == b.toList) && r)
    | none => none
  | _, _ => none

mutual
/-- The cells of a type that is compared, by their kinds (0: a number, 1: a bool, 2: a string): plain ones alone, or structs of these, each field behind the other. -/
def eqSize (P : Program) : Nat → TypeId → Option (List Nat)
  | 0, _ => none
  | n + 1, t => match P.underlying t with
    | some (.int _) => some [0]
    | some .bool => some [1]
    | some .string => some [2]
    | some (.struct fs) => bif P.stoodInHeld t then none else eqSizes P n fs.toList 0
    | _ => none
def eqSizes (P : Program) : Nat → List Field → Nat → Option (List Nat)
  | _, [], _ => some []
  | 0, _ :: _, _ => none
  | n + 1, f :: fs, acc => match eqSize P n f.type, eqSizes P n fs (acc + P.cellsOf f.type) with
    | some s, some r => bif f.name != "_" && Nat.beq f.offset acc && Nat.beq (P.cellsOf f.type) s.length then some (s ++ r) else none
    | _, _ => none
end

def kindC : C → Nat
  | .d (.int _ _) => 0
  | .d (.bool _) => 1
  | .d (.str _) => 2
  | _ => 3

def intOp (op : BinOp) (k : IntKind) (a b : Int) : Option (Bool × V) :=
  match op with
  | .add => some (true, .w (.one (.d (.int k (k.wrap (a + b))))))
  | .sub => some (true, .w (.one (.d (.int k (k.wrap (a - b))))))
  | .mul => some (true, .w (.one (.d (.int k (k.wrap (a * b))))))
  | .quo => some (!decide (b = 0), .w (.one (.d (.int k (k.wrap (a.tdiv b))))))
  | .rem => some (!decide (b = 0), .w (.one (.d (.int k (a.tmod b)))))
  | .and | .or | .xor | .andNot => some (true, .w (.one (.d (.int k (bits op k a b)))))
  | .eql => some (true, vb (decide (a = b)))
  | .neq => some (true, vb (!decide (a = b)))
  | .lss => some (true, vb (decide (a < b)))
  | .leq => some (true, vb (decide (a ≤ b)))
  | .gtr => some (true, vb (decide (b < a)))
  | .geq => some (true, vb (decide (b ≤ a)))
  | .shl => some (!decide (b < 0), .w (.one (.d (.int k (k.wrap (a * 2 ^ (min b.toNat k.bits)))))))
  | .shr => some (!decide (b < 0), .w (.one (.d (.int k (a.fdiv (2 ^ (min b.toNat k.bits)))))))

def strOp (op : BinOp) (x y : ByteArray) : Option (Bool × V) :=
  let eq := x.toList == y.toList
  let lt := Op.bytesLess x.toList y.toList
  match op with
  | .add => some (decide (x.size + y.size ≤ 9223372036854775807), .w (.one (.d (.str (x ++ y)))))
  | .eql => some (true, vb eq)
  | .neq => some (true, vb (!eq))
  | .lss => some (true, vb lt)
  | .leq => some (true, vb (lt || eq))
  | .gtr => some (true, vb (!(lt || eq)))
  | .geq => some (true, vb (!lt))
  | _ => none

def binU (P : Program) (op : BinOp) (t : TypeId) (x y : V) : Option (Bool × V) :=
  match x, y with
  | .w (.one (.d (.int k a))), .w (.one (.d (.int k' b))) =>
    match op with
    | .shl | .shr => intOp op k a b
    | _ => match decide (k = k') with
      | true => intOp op k a b
      | false => none
  | .w (.one (.d (.str a))), .w (.one (.d (.str b))) => strOp op a b
  | .w (.one (.d (.bool a))), .w (.one (.d (.bool b))) =>
    match P.underlying t, op with
    | some .bool, .eql => some (true, vb (a == b))
    | some .bool, .neq => some (true, vb (!(a == b)))
    | _, _ => none
  | .w (.agg xs), .w (.agg ys) =>
    match kindOf P t, eqSize P 40 t, !P.eqGuardType P.depth t, eqCs xs ys, op with
    | some true, some s, true, some r, .eql => bif xs.map kindC == s && ys.map kindC == s then some (true, vb r) else none
    | some true, some s, true, some r, .neq => bif xs.map kindC == s && ys.map kindC == s then some (true, vb (!r)) else none
    | _, _, _, _, _ => none
  | _, _ => none

def unU (op : UnOp) (x : V) : Option V :=
  match op, x with
  | .neg, .w (.one (.d (.int k n))) => some (.w (.one (.d (.int k (k.wrap (0 - n))))))
  | .xor, .w (.one (.d (.int k n))) => some (.w (.one (.d (.int k (bits .xor k (if k.signed then -1 else k.max) n)))))
  | .not, .w (.one (.d (.bool b))) => some (vb (!b))
  | _, _ => none

def sliceC : C → Option (Nat × Nat × (Nat → Nat → D))
  | .d .nil => some (0, 0, dg)
  | .d (.slc n e g) => some (n, e, g)
  | .own _ n e g => some (n, e, g)
  | _ => none

def lenU (P : Program) (t : TypeId) (x : V) : Option V :=
  match P.underlying t, x with
  | some .string, .w (.one (.d (.str s))) => some (vi s.size)
  | some (.array n _), _ => some (vi n)
  | some (.slice _), .w (.one c) => match sliceC c with
    | some (n, _, _) => some (vi n)
    | none => none
  | _, _ => none

def boundOf (ev : Operand → V) : Option Operand → Option (Option Int)
  | none => some none
  | some x => match ev x with
    | .w (.one (.d (.int _ i))) => some (some i)
    | _ => none

def appGet (n : Nat) (g g' : Nat → Nat → D) : Nat → Nat → D := fun i j => bif Nat.blt i n then g i j else g' (i - n) j

/-- The greatest number of elements that append makes here. -/
def appLim (bytes : Nat) : Nat := 140737488355328 / (bytes + 1)

/-- Bytes of a row. -/
def byteOk : D → Bool
  | .int .u8 z => decide (0 ≤ z) && decide (z ≤ 255)
  | _ => false
def byteOf : D → UInt8
  | .int _ z => UInt8.ofNat z.toNat
  | _ => 0
def byteG (n : Nat) (g : Nat → Nat → D) : Bool := (List.range n).all fun i => byteOk (g i 0)
def byteS (n : Nat) (g : Nat → Nat → D) : ByteArray := ⟨((List.range n).map fun i => byteOf (g i 0)).toArray⟩

def core (P : Program) (o : Oper) (ev : Operand → V) (m : List (Nat × B)) (slot : Nat) : Option Out :=
  match o.op with
  | .move x | .assign x =>
    match ev x with
    | .w (.one (.d .nil)) => match P.underlying o.type with
      | some (.slice e) => some ⟨true, .w (.one (.own slot 0 (P.cellsOf e) dg)), m, [.tick 0 (P.cellsOf e)]⟩
      | _ => some ⟨true, .w (.one (.d .nil)), m, []⟩
    | v => some ⟨true, v, m, []⟩
  | .pick c a b =>
    match ev c with
    | .w (.one (.d (.bool x))) => match ev a, ev b with
      | .w (.one (.d (.bool y))), .w (.one (.d (.bool z))) => some ⟨true, vb (bif x then y else z), m, []⟩
      | va, vb' => bif x then some ⟨true, va, m, []⟩ else some ⟨true, vb', m, []⟩
    | _ => none
  | .alloc t => match zeroC P t with
    | some cs => let r := nilOwn (cellE P 20 t) cs (slot + 1); some ⟨true, .w (.one (.ptr slot 0)), m, .var r.1 :: r.2⟩
    | none => none
  | .box _ x => match ev x with
    | .w u => some ⟨true, .w (.one (.ptr slot 0)), m, [.var (ucells u)]⟩
    | _ => none
  | .build t ps => match partsU ev ps.toList with
    | some us => match builtC P t us with
      | some cs => let r := nilOwn (cellE P 20 t) cs slot; some ⟨true, .w (.agg r.1), m, r.2⟩
      | none => none
    | none => none
  | .buildSlice t len ps => match P.underlying t with
    | some (.slice e) => match P.info? e, zeroC P e, partsU ev ps.toList with
      | some i, some z, some us =>
        bif Nat.ble (len * i.size) 16777216 && Nat.beq z.length i.size && Nat.blt 0 i.size then
          match fillU (fun j => some (j * i.size, i.size)) us (List.replicate len z).flatten with
          | some cs => match toDs cs with
            | some ds => some ⟨true, .w (.one (.own slot len i.size fun a j => ds.getD (a * i.size + j) .nil)), m, [.tick len i.size]⟩
            | none => none
          | none => none
        else none
      | _, _, _ => none
    | _ => none
  | .load t a => match ev a, kindOf P t with
    | .w (.one (.ptr b off)), some true => match look m b with
      | some (.var cs) => bif Nat.ble (off + P.cellsOf t) cs.length then some ⟨true, .w (.agg ((cs.drop off).take (P.cellsOf t))), m, []⟩ else none
      | _ => none
    | .w (.one (.ptr b off)), some false => match look m b with
      | some (.var cs) => match cs[off]? with
        | some c => some ⟨true, .w (.one c), m, []⟩
        | none => none
      | _ => none
    | .w (.one (.ref sz g)), some true => bif Nat.ble (P.cellsOf t) sz then some ⟨true, .w (.agg ((List.range (P.cellsOf t)).map fun j => .d (g j))), m, []⟩ else none
    | .w (.one (.ref sz g)), some false => bif Nat.blt 0 sz then some ⟨true, .w (.one (.d (g 0))), m, []⟩ else none
    | _, _ => none
  | .store t a x => match ev a, ev x with
    | .w (.one (.ptr b off)), .w u => match look m b, P.info? t with
      | some (.var cs), some i =>
        bif Nat.beq (ucells u).length i.size && Nat.ble (off + i.size) cs.length then
          some ⟨true, .tup [], put m b (.var (setAt cs off (ucells u))), []⟩ else none
      | _, _ => none
    | _, _ => none
  | .nilCheck x => match ev x with
    | .w (.one (.ptr b off)) => some ⟨true, .w (.one (.ptr b off)), m, []⟩
    | .w (.one (.fn f a b)) => some ⟨true, .w (.one (.fn f a b)), m, []⟩
    | .w (.one (.ref sz g)) => some ⟨true, .w (.one (.ref sz g)), m, []⟩
    | _ => none
  | .binOp op t x y _ => match binU P op t (ev x) (ev y) with
    | some (ok, v) => some ⟨ok, v, m, []⟩
    | none => none
  | .unOp op _ x => match unU op (ev x) with
    | some v => some ⟨true, v, m, []⟩
    | none => none
  | .convert src dst x => match P.underlying src, P.underlying dst, ev x with
    | some _, some (.int k), .w (.one (.d (.int _ n))) => some ⟨true, .w (.one (.d (.int k (k.wrap n)))), m, []⟩
    | some _, some .string, .w (.one (.d (.str s))) => some ⟨true, .w (.one (.d (.str s))), m, []⟩
    | some (.slice te), some .string, .w (.one c) => match sliceC c, P.underlying te with
      | some (n, e, g), some (.int .u8) => some ⟨Nat.blt 0 n && Nat.beq e 1 && byteG n g, .w (.one (.d (.str (byteS n g)))), m, []⟩
      | _, _ => none
    | _, _, _ => none
  | .makeFunc (.func g) fs cs => match ptrsOf ev fs.toList, ptrsOf ev cs.toList with
    | some a, some b => some ⟨true, .w (.one (.fn g a b)), m, []⟩
    | _, _ => none
  | .slice t x lo hi none => match boundOf ev lo, boundOf ev hi, ev x, P.underlying t with
    | some l, some h, .w (.one (.d (.str s))), some .string =>
      let a := l.getD 0; let b := h.getD s.size
      some ⟨decide (0 ≤ a) && decide (a ≤ b) && decide (b ≤ s.size), .w (.one (.d (.str (s.extract a.toNat b.toNat)))), m, []⟩
    | some l, some h, .w (.one c), some (.slice te) => match sliceC c, P.info? te with
      | some (n, e, g), some q =>
        let a := l.getD 0; let b := h.getD n
        some ⟨decide (0 ≤ a) && decide (a ≤ b) && decide (b ≤ n) && (Nat.beq e q.size || Nat.beq n 0), .w (.one (.d (.slc (b.toNat - a.toNat) e fun i j => g (a.toNat + i) j))), m, []⟩
      | _, _ => none
    | some l, some h, .w (.one (.ref sz g)), some (.array len te) => match P.info? te with
      | some q =>
        let a := l.getD 0; let b := h.getD len
        some ⟨decide (0 ≤ a) && decide (a ≤ b) && decide (b ≤ len) && (Nat.ble (len * q.size) sz && Nat.blt 0 q.size), .w (.one (.d (.slc (b.toNat - a.toNat) q.size fun i j => g ((a.toNat + i) * q.size + j)))), m, []⟩
      | none => none
    | _, _, _, _ => none
  | .fieldAddr s x f => match ev x, fieldOf P s f with
    | .w (.one (.ptr b off)), some (fo, fs) => bif Nat.blt 0 fs then some ⟨true, .w (.one (.ptr b (off + fo))), m, []⟩ else none
    | .w (.one (.ref sz g)), some (fo, fs) => bif Nat.blt 0 fs && Nat.ble (fo + fs) sz then some ⟨true, .w (.one (.ref fs fun j => g (fo + j))), m, []⟩ else none
    | _, _ => none
  | .field s x f => match ev x, fieldOf P s f, P.underlying s with
    | .w (.agg cs), some (fo, fs), some (.struct fields) => match (fields[f]?).bind fun q => kindOf P q.type with
      | some true => bif Nat.ble (fo + fs) cs.length then some ⟨true, .w (.agg ((cs.drop fo).take fs)), m, []⟩ else none
      | some false => match cs[fo]? with
        | some c => some ⟨true, .w (.one c), m, []⟩
        | none => none
      | none => none
    | _, _, _ => none
  | .indexAddr t x ix => match ev x, ev ix, P.underlying t with
    | .w (.one (.ptr b off)), .w (.one (.d (.int _ i))), some (.array len e) => match P.info? e with
      | some q => some ⟨decide (0 ≤ i) && decide (i < len), .w (.one (.ptr b (off + i.toNat * q.size))), m, []⟩
      | none => none
    | .w (.one c), .w (.one (.d (.int _ i))), some (.slice te) => match sliceC c, P.info? te with
      | some (n, e, g), some q => some ⟨decide (0 ≤ i) && decide (i < n) && (Nat.beq e q.size && Nat.blt 0 e), .w (.one (.ref e (g i.toNat))), m, []⟩
      | _, _ => none
    | .w (.one (.ref sz g)), .w (.one (.d (.int _ i))), some (.array len e) => match P.info? e with
      | some q => some ⟨decide (0 ≤ i) && decide (i < len) && (Nat.ble (len * q.size) sz && Nat.blt 0 q.size), .w (.one (.ref q.size fun j => g (i.toNat * q.size + j))), m, []⟩
      | none => none
    | _, _, _ => none
  | .index t x ix => match ev x, ev ix, P.underlying t with
    | .w (.one (.d (.str s))), .w (.one (.d (.int _ i))), some .string =>
      some ⟨decide (0 ≤ i) && decide (i < s.size), .w (.one (.d (.int .u8 (((s.data.toList.getD i.toNat 0).toNat : Nat) : Int)))), m, []⟩
    | .w (.agg cs), .w (.one (.d (.int _ i))), some (.array len e) => match P.info? e, kindOf P e with
      | some q, some true => some ⟨decide (0 ≤ i) && decide (i < len) && Nat.ble (i.toNat * q.size + q.size) cs.length, .w (.agg ((cs.drop (i.toNat * q.size)).take q.size)), m, []⟩
      | some q, some false => match cs[i.toNat * q.size]? with
        | some c => some ⟨decide (0 ≤ i) && decide (i < len), .w (.one c), m, []⟩
        | none => none
      | _, _ => none
    | _, _, _ => none
  | .extract x i => match ev x with
    | .tup us => match us[i]? with
      | some u => some ⟨true, .w u, m, []⟩
      | none => none
    | _ => none
  | .call { callee := .builtin b, args, argTypes } =>
    match b, args.toList, argTypes.toList with
    | .len, [x], [t] => match lenU P t (ev x) with
      | some v => some ⟨true, v, m, []⟩
      | none => none
    | .min, [x, y], _ => match ev x, ev y with
      | .w (.one (.d (.int k a))), .w (.one (.d (.int _ c))) => some ⟨true, .w (.one (.d (.int k (if c < a then c else a)))), m, []⟩
      | _, _ => none
    | .max, [x, y], _ => match ev x, ev y with
      | .w (.one (.d (.int k a))), .w (.one (.d (.int _ c))) => some ⟨true, .w (.one (.d (.int k (if c > a then c else a)))), m, []⟩
      | _, _ => none
    | .min, [x, y, z, u], _ => match ev x, ev y, ev z, ev u with
      | .w (.one (.d (.int k a))), .w (.one (.d (.int _ c))), .w (.one (.d (.int _ d))), .w (.one (.d (.int _ e))) =>
        some ⟨true, .w (.one (.d (.int k (let p := if c < a then c else a; let q := if d < p then d else p; if e < q then e else q)))), m, []⟩
      | _, _, _, _ => none
    | .max, [x, y, z, u], _ => match ev x, ev y, ev z, ev u with
      | .w (.one (.d (.int k a))), .w (.one (.d (.int _ c))), .w (.one (.d (.int _ d))), .w (.one (.d (.int _ e))) =>
        some ⟨true, .w (.one (.d (.int k (let p := if c > a then c else a; let q := if d > p then d else p; if e > q then e else q)))), m, []⟩
      | _, _, _, _ => none
    | .append, [x, y], [t, t'] => match ev x, ev y, P.underlying t, P.underlying t' with
      | .w (.one (.own r n e g)), .w (.one c), some (.slice te), some (.slice te') => match sliceC c, look m r, P.info? te with
        | some (n', e', g'), some (.tick k e''), some i =>
          bif Nat.beq e i.size && Nat.beq e e'' && (Nat.beq e e' || Nat.beq n' 0) && Nat.blt 0 e && Nat.beq ((zeroC P te).getD []).length e && Nat.beq te te' then
            some ⟨Nat.beq n k && Nat.ble (n + n') (appLim i.bytes), .w (.one (.own r (n + n') e (appGet n g g'))), put m r (.tick (n + n') e), []⟩
          else none
        | _, _, _ => none
      | _, _, _, _ => none
    | _, _, _ => none
  | _ => none

def cblocks : C → List Nat
  | .ptr b _ => [b]
  | .fn _ fs cs => fs.map (·.1) ++ cs.map (·.1)
  | .own r _ _ _ => [r]
  | _ => []
def ublocks (u : U) : List Nat := (ucells u).flatMap cblocks
def vblocks : V → List Nat
  | .w u => ublocks u
  | .tup us => us.flatMap ublocks
  | .any => []

def addN (l : List Nat) (x : Nat) : List Nat := bif l.any (Nat.beq x) then l else l ++ [x]
def dedup (l : List Nat) : List Nat := l.foldl addN []

structure Tab where
  fn : FuncId → List U → List (Nat × B) → Option (Bool × V × List (Nat × B))
  own : FuncId → Bool
  ro : Oper → Bool := fun _ => false

/-- The blocks that an operation may look at or turn. -/
def foot (op : Op) (ev : Operand → V) : List Nat :=
  match op with
  | .load _ a | .store _ a _ => match ev a with
    | .w (.one (.ptr b _)) => [b]
    | _ => []
  | .call { callee := .builtin _, args, .. } => match args.toList with
    | x :: _ => match ev x with
      | .w (.one (.own r _ _ _)) => [r]
      | _ => []
    | [] => []
  | .call { callee := .value f, args, .. } => dedup (vblocks (ev f) ++ args.toList.flatMap fun x => vblocks (ev x))
  | _ => []

def restrict (M : List B) : List Nat → List (Nat × B)
  | [] => []
  | b :: bs => (b, M.getD b .gone) :: restrict M bs
def upd : List B → List (Nat × B) → List B
  | M, [] => M
  | M, (b, x) :: m => upd (M.set b x) m

structure St where
  tmps : List V
  mem : List B

def setTmp (ts : List V) : Option Tmp → V → List V
  | some d, v => ts.set d v
  | none, _ => ts

/-- What a call of a function value is: the function and its arguments. -/
def callOf (ev : Operand → V) (f : Operand) (args : List Operand) : Option (FuncId × List U) :=
  match ev f, argsU ev args with
  | .w (.one (.fn g fs cs)), some us => some (g, fs.map ptrU ++ us ++ cs.map ptrU)
  | _, _ => none

def tabOf (G : Tab) (g : FuncId) (us : List U) (m : List (Nat × B)) : Option (Bool × V × List (Nat × B)) :=
  bif G.own g then G.fn g us m else G.fn g (us.map argU) m

/-- An operation that is no call, or a call by a contract. -/
def coreT (P : Program) (G : Tab) (o : Oper) (ev : Operand → V) (m : List (Nat × B)) (slot : Nat) : Option Out :=
  match o.op with
  | .call { callee := .value f, args, .. } => match callOf ev f args.toList with
    | some (g, us) => match tabOf G g us m with
      | some (ok, v, m') => some ⟨ok, v, m', []⟩
      | none => none
    | none => none
  | .box _ x => bif G.ro o then (match ev x with
      | .w u => match toDs (ucells u) with
        | some ds => bif Nat.blt 0 ds.length then some ⟨true, .w (.one (.ref ds.length fun j => ds.getD j .nil)), m, [.tick 1 ds.length]⟩ else none
        | none => none
      | _ => none) else core P o ev m slot
  | _ => core P o ev m slot

end Sh
end Go.Proofs.YtamdjlpobonmiaaDoor

/- The evaluator of code: as a function, and with what comes behind handed in. -/
namespace Go.Proofs.YtamdjlpobonmiaaDoor
namespace Sh

inductive Gd where
  | run
  | skip
  | test (d : Nat) (b want : Bool)
  | bad

def gd (ops : Array Oper) (ts : List V) (o : Oper) : Gd :=
  match o.guard with
  | none => .run
  | some (j, want) => match (ops[j]?).bind (·.dst) with
    | none => .skip
    | some d => match ts[d]? with
      | none => .skip
      | some (.w (.one (.d (.bool b)))) => .test d b want
      | some (.tup []) => .skip
      | _ => .bad

def setAll : List B → Nat → List B → List B
  | M, _, [] => M
  | M, s, b :: bs => setAll (M.set s b) (s + 1) bs

def belowC (k : Nat) : C → Bool
  | .d _ => true
  | .own r _ _ _ => Nat.blt r k
  | .ptr b _ => Nat.blt b k
  | .ref _ _ => true
  | .fn _ fs cs => fs.all (fun p => Nat.blt p.1 k) && cs.all fun p => Nat.blt p.1 k
  | .unk => true
def belowU (k : Nat) (u : U) : Bool := (ucells u).all (belowC k)
def belowV (k : Nat) : V → Bool
  | .w u => belowU k u
  | .tup us => us.all (belowU k)
  | .any => true
def belowB (k : Nat) : B → Bool
  | .var cs => cs.all (belowC k)
  | _ => true

def clearV (n : Nat) (v : V) : V := bif belowV n v then v else .any
def trunc (n : Nat) (st : St) : St := bif (st.mem.take n).all (belowB n) then ⟨st.tmps.map (clearV n), st.mem.take n⟩ else st
def shrink (n : Nat) (v : V) (M : List B) : List B := bif belowV n v && (M.take n).all (belowB n) then M.take n else M

inductive Ex where
  | norm
  | exit (id : Nat)
  | ret

def know (ts : List V) (c : Operand) (b : Bool) : List V :=
  match c with
  | .tmp t => ts.set t (vb b)
  | _ => ts

abbrev CallF := FuncId → List U → List B → Option (V × List B)
abbrev CallK (R : Type) := FuncId → List U → List B → (V → List B → Option R) → Option R
abbrev LoopF := Code → St → Option (Ex × St)
abbrev LoopK (R : Type) := Code → St → (Ex → St → Option R) → Option R

/-- What an operation comes to, but for calls that are gone into. -/
def putOut (st : St) (dst : Option Tmp) (v : V) (m : List (Nat × B)) (al : List B) : St :=
  ⟨setTmp st.tmps dst v, setAll (upd (st.mem ++ List.replicate al.length .gone) m) st.mem.length al⟩

def exR (P : Program) (G : Tab) (call : CallF) (o : Oper) (st : St) : Option St :=
  match coreT P G o (opnd st.tmps) (restrict st.mem (foot o.op (opnd st.tmps))) st.mem.length with
  | some ⟨ok, v, m, al⟩ => bif ok then some (putOut st o.dst v m al) else none
  | none => match o.op with
    | .call { callee := .value f, args, .. } => match callOf (opnd st.tmps) f args.toList with
      | some (g, us) => match call g us st.mem with
        | some (v, mem) => some ⟨setTmp st.tmps o.dst v, mem⟩
        | none => none
      | none => none
    | _ => none

def exRK (P : Program) (G : Tab) {R : Type} (call : CallK R) (o : Oper) (st : St) (k : St → Option R) : Option R :=
  match coreT P G o (opnd st.tmps) (restrict st.mem (foot o.op (opnd st.tmps))) st.mem.length with
  | some ⟨ok, v, m, al⟩ => bif ok then k (putOut st o.dst v m al) else none
  | none => match o.op with
    | .call { callee := .value f, args, .. } => match callOf (opnd st.tmps) f args.toList with
      | some (g, us) => call g us st.mem fun v mem => k ⟨setTmp st.tmps o.dst v, mem⟩
      | none => none
    | _ => none

def skipO (o : Oper) (st : St) : St := ⟨setTmp st.tmps o.dst (.tup []), st.mem⟩

def stepR (P : Program) (G : Tab) (call : CallF) (ops : Array Oper) (o : Oper) (st : St) : Option St :=
  match gd ops st.tmps o with
  | .run => exR P G call o st
  | .skip => some (skipO o st)
  | .test d b want =>
    bif b then (bif want then exR P G call o ⟨st.tmps.set d (vb true), st.mem⟩ else some (skipO o ⟨st.tmps.set d (vb true), st.mem⟩))
    else (bif want then some (skipO o ⟨st.tmps.set d (vb false), st.mem⟩) else exR P G call o ⟨st.tmps.set d (vb false), st.mem⟩)
  | .bad => none

def stepRK (P : Program) (G : Tab) {R : Type} (call : CallK R) (ops : Array Oper) (o : Oper) (st : St) (k : St → Option R) : Option R :=
  match gd ops st.tmps o with
  | .run => exRK P G call o st k
  | .skip => k (skipO o st)
  | .test d b want =>
    bif b then (bif want then exRK P G call o ⟨st.tmps.set d (vb true), st.mem⟩ k else k (skipO o ⟨st.tmps.set d (vb true), st.mem⟩))
    else (bif want then k (skipO o ⟨st.tmps.set d (vb false), st.mem⟩) else exRK P G call o ⟨st.tmps.set d (vb false), st.mem⟩ k)
  | .bad => none

def regR (P : Program) (G : Tab) (call : CallF) (ops : Array Oper) : List Oper → St → Option St
  | [], st => some st
  | o :: os, st => match stepR P G call ops o st with
    | some st' => regR P G call ops os st'
    | none => none

def regRK (P : Program) (G : Tab) {R : Type} (call : CallK R) (ops : Array Oper) : List Oper → St → (St → Option R) → Option R
  | [], st, k => k st
  | o :: os, st, k => stepRK P G call ops o st fun st' => regRK P G call ops os st' k

/- Regions that draw their order. -/

structure Rec where
  looks : List Nat
  dst : Option Nat
  ms : List Nat
  wr : Bool

def memb (x : Nat) : List Nat → Bool
  | [] => false
  | y :: ys => bif Nat.beq x y then true else memb x ys
def disj : List Nat → List Nat → Bool
  | [], _ => true
  | x :: xs, ys => !memb x ys && disj xs ys
def dstIn (d : Option Nat) (l : List Nat) : Bool :=
  match d with
  | some d => memb d l
  | none => false
def dstEq (d e : Option Nat) : Bool :=
  match d, e with
  | some d, some e => Nat.beq d e
  | _, _ => false

def indep (r s : Rec) : Bool := !dstIn r.dst s.looks && !dstIn s.dst r.looks && !dstEq r.dst s.dst && ((!r.wr && !s.wr) || disj r.ms s.ms)

def isWr : Op → Bool
  | .load .. => false
  | .call { callee := .builtin .append, .. } => true
  | .call { callee := .builtin _, .. } => false
  | _ => true

def slotsOf : Nat → Nat → List Nat
  | _, 0 => []
  | s, n + 1 => s :: slotsOf (s + 1) n

def sameKeys : List (Nat × B) → List Nat → Bool
  | [], [] => true
  | (a, _) :: m, b :: l => Nat.beq a b && sameKeys m l
  | _, _ => false

/-- The places of the operation at index i of a region that draws. -/
def stride : Nat := 4

def exD (P : Program) (G : Tab) (ops : Array Oper) (slot : Nat) (o : Oper) (st : St) : Option (Bool × St × Rec) :=
  match coreT P G o (opnd st.tmps) (restrict st.mem (foot o.op (opnd st.tmps))) slot with
  | some ⟨ok, v, m, al⟩ =>
    bif sameKeys m (foot o.op (opnd st.tmps)) && Nat.ble al.length stride && (foot o.op (opnd st.tmps)).all (fun b => Nat.blt b slot) then
      some (ok, ⟨setTmp st.tmps o.dst v, setAll (upd st.mem m) slot al⟩, ⟨o.looksAt ops, o.dst, foot o.op (opnd st.tmps) ++ slotsOf slot al.length, isWr o.op⟩)
    else none
  | none => none

def skipRec (ops : Array Oper) (o : Oper) : Rec := ⟨o.looksAt ops, o.dst, [], false⟩

def stepD (P : Program) (G : Tab) (ops : Array Oper) (slot : Nat) (o : Oper) (st : St) : Option (Bool × St × Rec) :=
  match gd ops st.tmps o with
  | .run => exD P G ops slot o st
  | .skip => some (true, skipO o st, skipRec ops o)
  | .test _ b want => bif b == want then exD P G ops slot o st else some (true, skipO o st, skipRec ops o)
  | .bad => none

def goD (P : Program) (G : Tab) (ops : Array Oper) (base : Nat) : Nat → List Oper → St → List Rec → Option (St × List Rec)
  | _, [], st, rs => some (st, rs)
  | i, o :: os, st, rs => match stepD P G ops (base + i * stride) o st with
    | some (true, st', r) => goD P G ops base (i + 1) os st' (rs ++ [r])
    | _ => none

def stepDK (P : Program) (G : Tab) {R : Type} (ops : Array Oper) (slot : Nat) (o : Oper) (st : St) (k : St → Rec → Option R) : Option R :=
  match gd ops st.tmps o with
  | .run => match exD P G ops slot o st with
    | some (ok, st', r) => bif ok then k st' r else none
    | none => none
  | .skip => k (skipO o st) (skipRec ops o)
  | .test d b want =>
    bif b then
      (bif want then (match exD P G ops slot o ⟨st.tmps.set d (vb true), st.mem⟩ with
        | some (ok, st', r) => bif ok then k st' r else none
        | none => none) else k (skipO o ⟨st.tmps.set d (vb true), st.mem⟩) (skipRec ops o))
    else
      (bif want then k (skipO o ⟨st.tmps.set d (vb false), st.mem⟩) (skipRec ops o) else (match exD P G ops slot o ⟨st.tmps.set d (vb false), st.mem⟩ with
        | some (ok, st', r) => bif ok then k st' r else none
        | none => none))
  | .bad => none

def goDK (P : Program) (G : Tab) {R : Type} (ops : Array Oper) (base : Nat) : Nat → List Oper → St → List Rec → (St → List Rec → Option R) → Option R
  | _, [], st, rs, k => k st rs
  | i, o :: os, st, rs, k => stepDK P G ops (base + i * stride) o st fun st' r => goDK P G ops base (i + 1) os st' (rs ++ [r]) k

/-- Which operations stand before which, by the edges that bind: a number's bits. -/
def befOf (acc : List Nat) : List Edge → Nat
  | [] => 0
  | e :: es => bif Region.binds .any e then 2 ^ e.on ||| acc.getD e.on 0 ||| befOf acc es else befOf acc es
def befs : List Oper → List Nat → List Nat
  | [], acc => acc
  | o :: os, acc => befs os (acc ++ [befOf acc o.after.toList])

def edgesOk : Nat → List Oper → Bool
  | _, [] => true
  | i, o :: os => o.after.toList.all (fun e => !Region.binds .any e || Nat.blt e.on i) && edgesOk (i + 1) os

/-- Operation j against those before it in the text. -/
def checkOne (bef : Nat) (s : Rec) : Nat → List Rec → Bool
  | _, [] => true
  | i, r :: rs => (bef.testBit i || indep r s) && checkOne bef s (i + 1) rs
def checkAll : List Nat → List Rec → List Rec → Bool
  | _, _, [] => true
  | [], _, _ :: _ => false
  | b :: bs, done, r :: rs => checkOne b r 0 done && checkAll bs (done ++ [r]) rs

def startD (st : St) (ops : Array Oper) : St := ⟨st.tmps, st.mem ++ List.replicate (ops.size * stride) .gone⟩
def drawOk (P : Program) (ops : Array Oper) (rs : List Rec) : Bool := P.follows .mixedOrders && edgesOk 0 ops.toList && checkAll (befs ops.toList []) [] rs

/-- Places that nothing came to lie in go again. -/
def trimTail : List B → List B
  | [] => []
  | b :: bs => match trimTail bs with
    | [] => match b with
      | .gone => []
      | b => [b]
    | r => b :: r
def trimD (n : Nat) (st : St) : St := ⟨st.tmps, st.mem.take n ++ trimTail (st.mem.drop n)⟩

def regD (P : Program) (G : Tab) (ops : Array Oper) (st : St) : Option St :=
  match goD P G ops st.mem.length 0 ops.toList (startD st ops) [] with
  | some (st', rs) => bif drawOk P ops rs then some (trimD st.mem.length st') else none
  | none => none

def regDK (P : Program) (G : Tab) {R : Type} (ops : Array Oper) (st : St) (k : St → Option R) : Option R :=
  goDK P G ops st.mem.length 0 ops.toList (startD st ops) [] fun st' rs => bif drawOk P ops rs then k (trimD st.mem.length st') else none

def evC (P : Program) (G : Tab) (loop : LoopF) (call : CallF) : Code → St → Option (Ex × St)
  | .skip, st => some (.norm, st)
  | .label _, st => some (.norm, st)
  | .region _ ops draw, st =>
    match (bif draw then regD P G ops st else regR P G call ops ops.toList st) with
    | some st' => some (.norm, st')
    | none => none
  | .seq x y, st => match evC P G loop call x st with
    | some (.norm, st') => evC P G loop call y st'
    | r => r
  | .cond c x y, st => match opnd st.tmps c with
    | .w (.one (.d (.bool b))) => bif b then evC P G loop call x ⟨know st.tmps c true, st.mem⟩ else evC P G loop call y ⟨know st.tmps c false, st.mem⟩
    | _ => none
  | .block id x, st => match evC P G loop call x st with
    | some (.exit i, st') => bif Nat.beq i id then some (.norm, st') else some (.exit i, st')
    | r => r
  | .loop x, st => match evC P G loop call x st with
    | some (.norm, st') => loop (.loop x) (trunc st.mem.length st')
    | r => r
  | .exit id, st => some (.exit id, st)
  | .ret, st => some (.ret, st)
  | _, _ => none

def evK (P : Program) (G : Tab) {R : Type} (loop : LoopK R) (call : CallK R) : Code → St → (Ex → St → Option R) → Option R
  | .skip, st, k => k .norm st
  | .label _, st, k => k .norm st
  | .region _ ops draw, st, k => bif draw then regDK P G ops st (k .norm) else regRK P G call ops ops.toList st (k .norm)
  | .seq x y, st, k => evK P G loop call x st fun e st' => match e with
    | .norm => evK P G loop call y st' k
    | e => k e st'
  | .cond c x y, st, k => match opnd st.tmps c with
    | .w (.one (.d (.bool b))) => bif b then evK P G loop call x ⟨know st.tmps c true, st.mem⟩ k else evK P G loop call y ⟨know st.tmps c false, st.mem⟩ k
    | _ => none
  | .block id x, st, k => evK P G loop call x st fun e st' => match e with
    | .exit i => bif Nat.beq i id then k .norm st' else k (.exit i) st'
    | e => k e st'
  | .loop x, st, k => evK P G loop call x st fun e st' => match e with
    | .norm => loop (.loop x) (trunc st.mem.length st') k
    | e => k e st'
  | .exit id, st, k => k (.exit id) st
  | .ret, st, k => k .ret st
  | _, _, _ => none

/-- The results of a function. -/
def resOne (P : Program) (st : St) : ResultVar → Option U
  | .tmp t => match opnd st.tmps (.tmp t) with
    | .w u => some u
    | _ => none
  | .cell a t => match opnd st.tmps (.tmp a), kindOf P t with
    | .w (.one (.ptr b off)), some true => match st.mem[b]? with
      | some (.var cs) => bif Nat.ble (off + P.cellsOf t) cs.length then some (.agg ((cs.drop off).take (P.cellsOf t))) else none
      | _ => none
    | .w (.one (.ptr b off)), some false => match st.mem[b]? with
      | some (.var cs) => match cs[off]? with
        | some c => some (.one c)
        | none => none
      | _ => none
    | _, _ => none
def resAll (P : Program) (st : St) : List ResultVar → Option (List U)
  | [] => some []
  | r :: rs => match resOne P st r, resAll P st rs with
    | some u, some us => some (u :: us)
    | _, _ => none
def resV (P : Program) (fn : Func) (st : St) : Option V :=
  match resAll P st fn.results.toList with
  | some [u] => some (.w u)
  | some us => some (.tup us)
  | none => none

def startF (fn : Func) (us : List U) (mem : List B) : St := ⟨us.map .w ++ List.replicate (fn.ntmps - us.length) (.tup []), mem⟩

/-- A call that is gone into. -/
def callF (P : Program) (run : LoopF) : CallF := fun f us mem =>
  match P.funcs[f]? with
  | some fn => match fn.body with
    | some c => bif fn.name == "runtime.NumGoroutine" then none else
      match run c (startF fn us mem) with
      | some (.norm, st) | some (.ret, st) => match resV P fn st with
        | some v => some (v, shrink mem.length v st.mem)
        | none => none
      | _ => none
    | none => none
  | none => none

def callK (P : Program) {R : Type} (run : LoopK R) : CallK R := fun f us mem k =>
  match P.funcs[f]? with
  | some fn => match fn.body with
    | some c => bif fn.name == "runtime.NumGoroutine" then none else
      run c (startF fn us mem) fun e st => match e with
        | .exit _ => none
        | _ => match resV P fn st with
          | some v => k v (shrink mem.length v st.mem)
          | none => none
    | none => none
  | none => none

def run (P : Program) (G : Tab) : Nat → LoopF
  | 0 => fun _ _ => none
  | n + 1 => evC P G (run P G n) (callF P (run P G n))

def runK (P : Program) (G : Tab) {R : Type} : Nat → LoopK R
  | 0 => fun _ _ _ => none
  | n + 1 => evK P G (runK P G n) (callK P (runK P G n))

end Sh
end Go.Proofs.YtamdjlpobonmiaaDoor

/- What the seat's rows say of package variables: what these hold. -/
namespace Go.Proofs.YtamdjlpobonmiaaDoor
namespace Sh

/-- A variable's block, with all that it holds. -/
def Laid (I : Addr → Prop) (w : World) (g : Nat) (vs : List Value) : Prop :=
  ∃ arr T f, w.heap[g]? = some (.cells arr T f) ∧ arr.toList = vs ∧ ∀ i, i < vs.length → I ⟨g, i, none⟩

theorem Laid.step {I I' : Addr → Prop} {w w' : World} {g : Nat} {vs : List Value} (h : Laid I w g vs) (hI : ∀ a, I a → I' a) (hk : ∀ a, I a → w'.cell? a = w.cell? a)
    (hs : ∀ (b : Nat) arr T f, w.heap[b]? = some (.cells arr T f) → ∃ arr', w'.heap[b]? = some (.cells arr' T f) ∧ arr'.size = arr.size) : Laid I' w' g vs := by
  obtain ⟨arr, T, f, h1, h2, h3⟩ := h
  obtain ⟨arr', h4, h5⟩ := hs g arr T f h1
  refine ⟨arr', T, f, h4, ?_, fun i hi => hI _ (h3 i hi)⟩
  rw [← h2]
  apply List.ext_getElem?
  intro i
  simp only [Array.getElem?_toList]
  rcases Nat.lt_or_ge i arr.size with h | h
  · have h6 := hk ⟨g, i, none⟩ (h3 i (by rw [← h2]; simpa using h))
    simpa [World.cell?, h1, h4] using h6
  · rw [Array.getElem?_eq_none (by omega), Array.getElem?_eq_none h]

def Glob (I : Addr → Prop) (w : World) : Prop :=
  ∃ m tS pS tR pR, Laid I w 0 [.int .i64 m] ∧ Laid I w 3 (Lib.pow10Tab.map fun z => Value.int .u64 z) ∧ Laid I w 1 [.iface tS pS] ∧ Laid I w 2 [.iface tR pR]

theorem Glob.step {I I' : Addr → Prop} {w w' : World} (h : Glob I w) (hI : ∀ a, I a → I' a) (hk : ∀ a, I a → w'.cell? a = w.cell? a)
    (hs : ∀ (b : Nat) arr T f, w.heap[b]? = some (.cells arr T f) → ∃ arr', w'.heap[b]? = some (.cells arr' T f) ∧ arr'.size = arr.size) : Glob I' w' := by
  obtain ⟨m, tS, pS, tR, pR, h1, h2, h3, h4⟩ := h
  exact ⟨m, tS, pS, tR, pR, h1.step hI hk hs, h2.step hI hk hs, h3.step hI hk hs, h4.step hI hk hs⟩
end Sh
end Go.Proofs.YtamdjlpobonmiaaDoor

/- The relation between shadow memory and the model's world, and the steps that keep it. -/
namespace Go.Proofs.YtamdjlpobonmiaaDoor
namespace Sh

def F2 {α β : Type} (R : α → β → Prop) : List α → List β → Prop
  | [], [] => True
  | x :: xs, y :: ys => R x y ∧ F2 R xs ys
  | _, _ => False

section
variable {α β γ : Type} {R R' : α → β → Prop}
theorem F2.mono (h : ∀ x y, R x y → R' x y) : ∀ {xs : List α} {ys : List β}, F2 R xs ys → F2 R' xs ys
  | [], [], _ => trivial
  | _ :: _, _ :: _, ⟨a, b⟩ => ⟨h _ _ a, F2.mono h b⟩
theorem F2.mono_mem : ∀ {xs : List α} {ys : List β}, (∀ x ∈ xs, ∀ y, R x y → R' x y) → F2 R xs ys → F2 R' xs ys
  | [], [], _, _ => trivial
  | _ :: _, _ :: _, h, ⟨a, b⟩ => ⟨h _ (List.mem_cons_self ..) _ a, F2.mono_mem (fun x hx => h x (List.mem_cons_of_mem _ hx)) b⟩
theorem F2.length : ∀ {xs : List α} {ys : List β}, F2 R xs ys → xs.length = ys.length
  | [], [], _ => rfl
  | _ :: _, _ :: _, ⟨_, b⟩ => by simp [F2.length b]
theorem F2.get : ∀ {xs : List α} {ys : List β} {i : Nat} {x : α}, F2 R xs ys → xs[i]? = some x → ∃ y, ys[i]? = some y ∧ R x y
  | _ :: _, _ :: _, 0, _, ⟨a, _⟩, h => by simp at h; subst h; exact ⟨_, rfl, a⟩
  | _ :: _, _ :: _, i + 1, _, ⟨_, b⟩, h => by simp at h ⊢; exact F2.get b h
theorem F2.of_get : ∀ {xs : List α} {ys : List β}, xs.length = ys.length → (∀ (i : Nat) x y, xs[i]? = some x → ys[i]? = some y → R x y) → F2 R xs ys
  | [], [], _, _ => trivial
  | [], _ :: _, h, _ => by simp at h
  | _ :: _, [], h, _ => by simp at h
  | _ :: _, _ :: _, h, k => ⟨k 0 _ _ rfl rfl, F2.of_get (by simpa using h) fun i x y hx hy => k (i + 1) x y (by simpa using hx) (by simpa using hy)⟩
theorem F2.append : ∀ {xs : List α} {ys : List β} {xs' : List α} {ys' : List β}, F2 R xs ys → F2 R xs' ys' → F2 R (xs ++ xs') (ys ++ ys')
  | [], [], _, _, _, h => h
  | _ :: _, _ :: _, _, _, ⟨a, b⟩, h => ⟨a, F2.append b h⟩
theorem F2.take : ∀ {xs : List α} {ys : List β} (n : Nat), F2 R xs ys → F2 R (xs.take n) (ys.take n)
  | _, _, 0, _ => trivial
  | [], [], _ + 1, _ => trivial
  | _ :: _, _ :: _, n + 1, ⟨a, b⟩ => ⟨a, F2.take n b⟩
theorem F2.drop : ∀ {xs : List α} {ys : List β} (n : Nat), F2 R xs ys → F2 R (xs.drop n) (ys.drop n)
  | _, _, 0, h => h
  | [], [], _ + 1, _ => trivial
  | _ :: _, _ :: _, n + 1, ⟨_, b⟩ => F2.drop n b
theorem F2.set : ∀ {xs : List α} {ys : List β} (n : Nat) {x : α} {y : β}, F2 R xs ys → R x y → F2 R (xs.set n x) (ys.set n y)
  | [], [], _, _, _, _, _ => trivial
  | _ :: _, _ :: _, 0, _, _, ⟨_, b⟩, h => ⟨h, b⟩
  | _ :: _, _ :: _, n + 1, _, _, ⟨a, b⟩, h => ⟨a, F2.set n b h⟩
theorem F2.map {f : γ → α} {Q : γ → β → Prop} (h : ∀ x y, Q x y → R (f x) y) : ∀ {xs : List γ} {ys : List β}, F2 Q xs ys → F2 R (xs.map f) ys
  | [], [], _ => trivial
  | _ :: _, _ :: _, ⟨a, b⟩ => ⟨h _ _ a, F2.map h b⟩
theorem F2.map' {f : α → γ} {Q : γ → β → Prop} (h : ∀ x y, R x y → Q (f x) y) {xs : List α} {ys : List β} (H : F2 R xs ys) : F2 Q (xs.map f) ys := F2.map (Q := R) h H
theorem F2.self_map {f : β → α} (h : ∀ y, R (f y) y) : ∀ (ys : List β), F2 R (ys.map f) ys
  | [] => trivial
  | _ :: ys => ⟨h _, F2.self_map h ys⟩
theorem F2.replicate {x : α} {y : β} (h : R x y) : ∀ n, F2 R (List.replicate n x) (List.replicate n y)
  | 0 => trivial
  | n + 1 => ⟨h, F2.replicate h n⟩
theorem F2.nil_left {ys : List β} (h : F2 R [] ys) : ys = [] := by cases ys with | nil => rfl | cons _ _ => exact h.elim
theorem F2.cons_left {x : α} {xs : List α} {ys : List β} (h : F2 R (x :: xs) ys) : ∃ y zs, ys = y :: zs ∧ R x y ∧ F2 R xs zs := by
  cases ys with
  | nil => exact h.elim
  | cons y zs => exact ⟨y, zs, rfl, h.1, h.2⟩
end

def DR (w : World) (I : Addr → Prop) : D → Value → Prop
  | .int k n, v => v = .int k n
  | .bool b, v => v = .bool b
  | .str s, v => v = .string s
  | .nil, v => v = .slice none 0 0
  | .slc n e g, v => ∃ A cap, v = .slice A n cap ∧ n ≤ cap ∧ ∀ i, i < n → ∀ j, j < e → ∃ a u, A = some a ∧ I (a.add (i * e + j)) ∧ w.cell? (a.add (i * e + j)) = some u ∧ DR w I (g i j) u

theorem DR.mono {w w' : World} {I I' : Addr → Prop} (hi : ∀ a, I a → I' a) (hk : ∀ a, I a → w'.cell? a = w.cell? a) : ∀ (x : D) {v : Value}, DR w I x v → DR w' I' x v
  | .int _ _, _, h | .bool _, _, h | .str _, _, h | .nil, _, h => h
  | .slc n e g, v, ⟨A, cap, hv, hc, h⟩ => ⟨A, cap, hv, hc, fun i hi' j hj => by
      obtain ⟨a, u, ha, hI, hu, hd⟩ := h i hi' j hj
      exact ⟨a, u, ha, hi _ hI, (hk _ hI).trans hu, DR.mono hi hk (g i j) hd⟩⟩

def PtrR (ρ : List (Option Nat)) (M : List B) (p : Nat × Nat) (v : Value) : Prop :=
  ∃ rb cs, M[p.1]? = some (.var cs) ∧ ρ[p.1]? = some (some rb) ∧ v = .pointer (some ⟨rb, p.2, none⟩)

def Head (w : World) (ρ : List (Option Nat)) (r n e : Nat) (v : Value) : Prop :=
  ∃ A cap, v = .slice A n cap ∧ ((A = none ∧ n = 0 ∧ cap = 0) ∨ ∃ rb arr T, A = some ⟨rb, 0, none⟩ ∧ ρ[r]? = some (some rb) ∧ w.heap[rb]? = some (.cells arr T (0, 0)) ∧ arr.size = cap * e)

def CR (w : World) (I : Addr → Prop) (ρ : List (Option Nat)) (M : List B) : C → Value → Prop
  | .d x, v => DR w I x v
  | .own r n e g, v => DR w I (.slc n e g) v ∧ ∃ m e', M[r]? = some (.tick m e') ∧ n ≤ m ∧ (n = m → Head w ρ r n e v)
  | .ptr b o, v => PtrR ρ M (b, o) v
  | .ref sz g, v => ∃ a, v = .pointer (some a) ∧ ∀ j, j < sz → ∃ u, I (a.add j) ∧ w.cell? (a.add j) = some u ∧ DR w I (g j) u
  | .fn f fs cs, v => ∃ vf vc, v = .func (.func f) vf vc ∧ F2 (PtrR ρ M) fs vf.toList ∧ F2 (PtrR ρ M) cs vc.toList
  | .unk, v => v.oneCell' = true

def UR (w : World) (I : Addr → Prop) (ρ : List (Option Nat)) (M : List B) : U → Value → Prop
  | .one c, v => CR w I ρ M c v
  | .agg cs, v => ∃ arr, v = .agg arr ∧ F2 (CR w I ρ M) cs arr.toList

def VR (w : World) (I : Addr → Prop) (ρ : List (Option Nat)) (M : List B) : V → Value → Prop
  | .w u, v => UR w I ρ M u v
  | .tup us, v => ∃ arr, v = .tuple arr ∧ F2 (UR w I ρ M) us arr.toList
  | .any, _ => True

structure Sat (I : Addr → Prop) (ρ : List (Option Nat)) (M : List B) (w : World) : Prop where
  len : ρ.length = M.length
  var : ∀ (r : Nat) cs, M[r]? = some (.var cs) → ∃ rb arr T, ρ[r]? = some (some rb) ∧ w.heap[rb]? = some (.cells arr T (0, 0)) ∧ F2 (CR w I ρ M) cs arr.toList ∧ ∀ a, I a → a.block ≠ rb
  tick : ∀ (r : Nat) n e rb, M[r]? = some (.tick n e) → ρ[r]? = some (some rb) → (∃ arr T, w.heap[rb]? = some (.cells arr T (0, 0))) ∧ ∀ a, I a → a.block = rb → a.off < n * e
  gone : ∀ r : Nat, M[r]? = some .gone → ρ[r]? = some none
  inj : ∀ (r r' rb : Nat), ρ[r]? = some (some rb) → ρ[r']? = some (some rb) → r = r'
  imm : ∀ a, I a → ∃ u, w.cell? a = some u
  glob : Glob I w

structure Ext (k : Nat) (I : Addr → Prop) (ρ : List (Option Nat)) (M : List B) (w : World) (I' : Addr → Prop) (ρ' : List (Option Nat)) (M' : List B) (w' : World) : Prop where
  os : w'.os = w.os
  tape : w'.tape = w.tape
  output : w'.output = w.output
  size : w.heap.size ≤ w'.heap.size
  imm : ∀ a, I a → I' a
  keep : ∀ a, I a → w'.cell? a = w.cell? a
  frame : ∀ b : Nat, b < w.heap.size → (∀ r : Nat, ρ[r]? ≠ some (some b)) → w'.heap[b]? = w.heap[b]?
  inew : ∀ a, I' a → I a ∨ w.heap.size ≤ a.block ∨ ∃ r : Nat, ρ[r]? = some (some a.block)
  img : ∀ r b : Nat, ρ'[r]? = some (some b) → w.heap.size ≤ b ∨ ∃ r' : Nat, ρ[r']? = some (some b)
  cr : ∀ c v, belowC k c = true → CR w I ρ M c v → CR w' I' ρ' M' c v

section
variable {k : Nat} {I I' I'' : Addr → Prop} {ρ ρ' ρ'' : List (Option Nat)} {M M' M'' : List B} {w w' w'' : World}

theorem Ext.refl : Ext k I ρ M w I ρ M w :=
  ⟨rfl, rfl, rfl, Nat.le_refl _, fun _ h => h, fun _ _ => rfl, fun _ _ _ => rfl, fun _ h => .inl h, fun r _ h => .inr ⟨r, h⟩, fun _ _ _ h => h⟩

theorem Ext.trans (h : Ext k I ρ M w I' ρ' M' w') (h' : Ext k I' ρ' M' w' I'' ρ'' M'' w'') : Ext k I ρ M w I'' ρ'' M'' w'' where
  os := h'.os.trans h.os
  tape := h'.tape.trans h.tape
  output := h'.output.trans h.output
  size := Nat.le_trans h.size h'.size
  imm a ha := h'.imm a (h.imm a ha)
  keep a ha := (h'.keep a (h.imm a ha)).trans (h.keep a ha)
  frame b hb hn := by
    refine (h'.frame b (Nat.lt_of_lt_of_le hb h.size) fun r hr => ?_).trans (h.frame b hb hn)
    rcases h.img r b hr with h1 | ⟨r', h1⟩
    · omega
    · exact hn r' h1
  inew a ha := by
    rcases h'.inew a ha with h1 | h1 | ⟨r, h1⟩
    · exact h.inew a h1
    · exact .inr (.inl (Nat.le_trans h.size h1))
    · rcases h.img r _ h1 with h2 | h2
      · exact .inr (.inl h2)
      · exact .inr (.inr h2)
  img r b hr := by
    rcases h'.img r b hr with h1 | ⟨r', h1⟩
    · exact .inl (Nat.le_trans h.size h1)
    · exact h.img r' b h1
  cr c v hc hcr := h'.cr c v hc (h.cr c v hc hcr)

theorem Ext.dr (h : Ext k I ρ M w I' ρ' M' w') (x : D) {v : Value} (hd : DR w I x v) : DR w' I' x v := DR.mono h.imm h.keep x hd

theorem UR.ext (h : Ext k I ρ M w I' ρ' M' w') : ∀ {u : U} {v : Value}, belowU k u = true → UR w I ρ M u v → UR w' I' ρ' M' u v
  | .one c, v, hb, hu => h.cr c v (by simpa [belowU, ucells] using hb) hu
  | .agg cs, v, hb, ⟨arr, hv, hf⟩ => ⟨arr, hv, F2.mono_mem (fun c hc y hy => h.cr c y (List.all_eq_true.1 hb c hc) hy) hf⟩

theorem VR.ext (h : Ext k I ρ M w I' ρ' M' w') : ∀ {x : V} {v : Value}, belowV k x = true → VR w I ρ M x v → VR w' I' ρ' M' x v
  | .w _, _, hb, hu => UR.ext h hb hu
  | .tup _, _, hb, ⟨arr, hv, hf⟩ => ⟨arr, hv, F2.mono_mem (fun _ hc _ hy => UR.ext h (List.all_eq_true.1 hb _ hc) hy) hf⟩
  | .any, _, _, _ => trivial

/-- What holds of a cell stays: from what the step does to memory. -/
theorem CR.step (imm : ∀ a, I a → I' a) (keep : ∀ a, I a → w'.cell? a = w.cell? a)
    (hv : ∀ (b : Nat) cs rb, M[b]? = some (.var cs) → ρ[b]? = some (some rb) → (∃ cs', M'[b]? = some (.var cs')) ∧ ρ'[b]? = some (some rb))
    (ht : ∀ (r : Nat) m e, M[r]? = some (.tick m e) → ∃ m' e', M'[r]? = some (.tick m' e') ∧ m ≤ m' ∧ (m = m' → ∀ rb arr T, ρ[r]? = some (some rb) → w.heap[rb]? = some (.cells arr T (0, 0)) →
      ρ'[r]? = some (some rb) ∧ ∃ arr', w'.heap[rb]? = some (.cells arr' T (0, 0)) ∧ arr'.size = arr.size)) :
    ∀ {c : C} {v : Value}, CR w I ρ M c v → CR w' I' ρ' M' c v := by
  have hp : ∀ p u, PtrR ρ M p u → PtrR ρ' M' p u := by
    rintro p u ⟨rb, cs, h1, h2, h3⟩
    obtain ⟨⟨cs', h4⟩, h5⟩ := hv _ _ _ h1 h2
    exact ⟨rb, cs', h4, h5, h3⟩
  intro c v h
  cases c with
  | d x => exact DR.mono imm keep x h
  | own r n e g =>
    obtain ⟨hd, m, e', hm, hn, hh⟩ := h
    obtain ⟨m', e'', hm', hle, hk⟩ := ht r m e' hm
    refine ⟨DR.mono imm keep _ hd, m', e'', hm', by omega, fun hnm => ?_⟩
    have e1 : n = m := by omega
    have e2 : m = m' := by omega
    obtain ⟨A, cap, hA, hA'⟩ := hh e1
    refine ⟨A, cap, hA, ?_⟩
    rcases hA' with h1 | ⟨rb, arr, T, h1, h2, h3, h4⟩
    · exact .inl h1
    · obtain ⟨h5, arr', h6, h7⟩ := hk e2 rb arr T h2 h3
      exact .inr ⟨rb, arr', T, h1, h5, h6, h7.trans h4⟩
  | ptr b o => exact hp _ _ h
  | ref sz g =>
    obtain ⟨a, ha, h⟩ := h
    refine ⟨a, ha, fun j hj => ?_⟩
    obtain ⟨u, h1, h2, h3⟩ := h j hj
    exact ⟨u, imm _ h1, (keep _ h1).trans h2, DR.mono imm keep _ h3⟩
  | fn f fs cs =>
    obtain ⟨vf, vc, h1, h2, h3⟩ := h
    exact ⟨vf, vc, h1, F2.mono hp h2, F2.mono hp h3⟩
  | unk => exact h

/-- A draw. -/
theorem CR.heap (hw : w'.heap = w.heap) {c : C} {v : Value} (h : CR w I ρ M c v) : CR w' I ρ M c v :=
  CR.step (fun _ h => h) (fun a _ => by simp only [World.cell?, hw]) (fun b cs rb h1 h2 => ⟨⟨cs, h1⟩, h2⟩)
    (fun r m e h => ⟨m, e, h, Nat.le_refl _, fun _ rb arr T h1 h2 => ⟨h1, arr, by rw [hw]; exact h2, rfl⟩⟩) h

theorem Sat.heap (hw : w'.heap = w.heap) (h : Sat I ρ M w) : Sat I ρ M w' where
  len := h.len
  var r cs hr := by
    obtain ⟨rb, arr, T, h1, h2, h3, h4⟩ := h.var r cs hr
    exact ⟨rb, arr, T, h1, by rw [hw]; exact h2, F2.mono (fun _ _ => CR.heap hw) h3, h4⟩
  tick r n e rb h1 h2 := by rw [hw]; exact h.tick r n e rb h1 h2
  gone := h.gone
  inj := h.inj
  imm a ha := by simp only [World.cell?, hw]; exact h.imm a ha
  glob := h.glob.step (fun _ h => h) (fun a _ => by simp only [World.cell?, hw]) (fun b arr T f h => ⟨arr, by rw [hw]; exact h, rfl⟩)

theorem Ext.drew : Ext k I ρ M w I ρ M { w with drawn := w.drawn + 1 } :=
  ⟨rfl, rfl, rfl, Nat.le_refl _, fun _ h => h, fun _ _ => rfl, fun _ _ _ => rfl, fun _ h => .inl h, fun r _ h => .inr ⟨r, h⟩, fun _ _ _ h => CR.heap (w := w) (w' := { w with drawn := w.drawn + 1 }) rfl h⟩

theorem getElem?_set_of {α : Type} {l : List α} {i j : Nat} {x y : α} (h : (l.set i x)[j]? = some y) : (i = j ∧ x = y ∧ j < l.length) ∨ (i ≠ j ∧ l[j]? = some y) := by
  by_cases e : i = j
  · subst e
    rw [List.getElem?_set] at h
    simp at h
    exact .inl ⟨rfl, h.2, h.1⟩
  · rw [List.getElem?_set_ne e] at h
    exact .inr ⟨e, h⟩

theorem lt_of_getElem? {α : Type} {l : List α} {i : Nat} {x : α} (h : l[i]? = some x) : i < l.length := (List.getElem?_eq_some_iff.1 h).1

/-- A row of length 0 of our own, in a place that was free. -/
theorem tick0 {s e : Nat} (hS : Sat I ρ M w) (hs : M[s]? = some .gone) :
    Sat I ρ (M.set s (.tick 0 e)) w ∧ Ext k I ρ M w I ρ (M.set s (.tick 0 e)) w ∧ CR w I ρ (M.set s (.tick 0 e)) (.own s 0 e dg) (.slice none 0 0) ∧ ∀ c v, CR w I ρ M c v → CR w I ρ (M.set s (.tick 0 e)) c v := by
  have hlt := lt_of_getElem? hs
  have hcr : ∀ c v, CR w I ρ M c v → CR w I ρ (M.set s (.tick 0 e)) c v := fun c v =>
    CR.step (fun _ h => h) (fun _ _ => rfl)
      (fun b cs rb h1 h2 => by
        have hne : s ≠ b := by rintro rfl; rw [hs] at h1; cases h1
        exact ⟨⟨cs, by rw [List.getElem?_set_ne hne]; exact h1⟩, h2⟩)
      (fun r m e' h => by
        have hne : s ≠ r := by rintro rfl; rw [hs] at h; cases h
        exact ⟨m, e', by rw [List.getElem?_set_ne hne]; exact h, Nat.le_refl _, fun _ rb arr T h1 h2 => ⟨h1, arr, h2, rfl⟩⟩)
  refine ⟨⟨by simp [hS.len], fun r cs h => ?_, fun r n e' rb h h2 => ?_, fun r h => ?_, hS.inj, hS.imm, hS.glob⟩, ⟨rfl, rfl, rfl, Nat.le_refl _, fun _ h => h, fun _ _ => rfl, fun _ _ _ => rfl, fun _ h => .inl h, fun r _ h => .inr ⟨r, h⟩, fun c v _ => hcr c v⟩, ?_, hcr⟩
  · rcases getElem?_set_of h with ⟨_, h1, _⟩ | ⟨_, h1⟩
    · cases h1
    · obtain ⟨rb, arr, T, h2, h3, h4, h5⟩ := hS.var r cs h1
      exact ⟨rb, arr, T, h2, h3, F2.mono hcr h4, h5⟩
  · rcases getElem?_set_of h with ⟨rfl, _, _⟩ | ⟨_, h1⟩
    · have := hS.gone _ hs; rw [this] at h2; cases h2
    · exact hS.tick r n e' rb h1 h2
  · rcases getElem?_set_of h with ⟨_, h1, _⟩ | ⟨_, h1⟩
    · cases h1
    · exact hS.gone r h1
  · exact ⟨⟨none, 0, rfl, Nat.le_refl _, fun i hi => by omega⟩, 0, e, by rw [List.getElem?_set]; simp [hlt], Nat.le_refl _, fun _ => ⟨none, 0, rfl, .inl ⟨rfl, rfl, rfl⟩⟩⟩

theorem setAll_get (bs : List B) : ∀ (M : List B) (s j : Nat), j < s → (setAll M s bs)[j]? = M[j]? := by
  induction bs with
  | nil => intro M s j _; rfl
  | cons b bs ih =>
    intro M s j h
    rw [setAll, ih _ _ _ (by omega), List.getElem?_set_ne (by omega)]

theorem setAll_length (bs : List B) : ∀ (M : List B) (s : Nat), (setAll M s bs).length = M.length := by
  induction bs with
  | nil => intro M s; rfl
  | cons b bs ih => intro M s; rw [setAll, ih]; simp

/-- The nil slices of some cells become rows of our own. -/
theorem nilOwn_ok (hS : Sat I ρ M w) : ∀ (es : List Nat) (cs : List C) (vs : List Value) (s : Nat), F2 (CR w I ρ M) cs vs → (∀ j, j < (nilOwn es cs s).2.length → M[s + j]? = some .gone) →
    Sat I ρ (setAll M s (nilOwn es cs s).2) w ∧ Ext k I ρ M w I ρ (setAll M s (nilOwn es cs s).2) w ∧ (∀ c v, CR w I ρ M c v → CR w I ρ (setAll M s (nilOwn es cs s).2) c v) ∧
      F2 (CR w I ρ (setAll M s (nilOwn es cs s).2)) (nilOwn es cs s).1 vs := by
  intro es
  induction es generalizing M with
  | nil => intro cs vs s hf _; exact ⟨hS, .refl, fun _ _ h => h, by cases cs <;> exact hf⟩
  | cons e es ih =>
    intro cs vs s hf hg
    cases cs with
    | nil => obtain rfl := F2.nil_left hf; exact ⟨hS, .refl, fun _ _ h => h, trivial⟩
    | cons c cs =>
      obtain ⟨v, vs, rfl, hc, hf'⟩ := F2.cons_left hf
      have other : ∀ (h : nilOwn (e :: es) (c :: cs) s = (c :: (nilOwn es cs s).1, (nilOwn es cs s).2)), Sat I ρ (setAll M s (nilOwn (e :: es) (c :: cs) s).2) w ∧ Ext k I ρ M w I ρ (setAll M s (nilOwn (e :: es) (c :: cs) s).2) w ∧ (∀ c' v', CR w I ρ M c' v' → CR w I ρ (setAll M s (nilOwn (e :: es) (c :: cs) s).2) c' v') ∧
          F2 (CR w I ρ (setAll M s (nilOwn (e :: es) (c :: cs) s).2)) (nilOwn (e :: es) (c :: cs) s).1 (v :: vs) := by
        intro h
        rw [h] at hg ⊢
        obtain ⟨h1, h2, h3, h4⟩ := ih hS cs vs s hf' hg
        exact ⟨h1, h2, h3, h3 _ _ hc, h4⟩
      cases c with
      | d x =>
        cases x with
        | nil =>
          cases e with
          | zero => exact other rfl
          | succ e =>
            simp only [nilOwn] at hg ⊢
            obtain rfl : v = .slice none 0 0 := hc
            have hs : M[s]? = some .gone := hg 0 (by simp)
            obtain ⟨t1, t2, t3, t4⟩ := tick0 (k := k) (e := e) hS hs
            obtain ⟨h1, h2, h3, h4⟩ := ih t1 cs vs (s + 1) (F2.mono t4 hf') (fun j hj => by
              rw [List.getElem?_set_ne (by omega)]
              have := hg (j + 1) (by simpa using hj)
              rwa [show s + 1 + j = s + (j + 1) from by omega])
            exact ⟨h1, t2.trans h2, fun c v h => h3 _ _ (t4 c v h), h3 _ _ t3, h4⟩
        | _ => exact other rfl
      | _ => exact other rfl

end
end Sh
end Go.Proofs.YtamdjlpobonmiaaDoor

/- What the model does to memory at a new block and at a store, as steps of the relation. -/
namespace Go.Proofs.YtamdjlpobonmiaaDoor
namespace Sh
open Go.RowKit

section
variable {P : Program} {k : Nat} {I I' I'' : Addr → Prop} {ρ ρ' ρ'' : List (Option Nat)} {M M' M'' : List B} {w w' w'' : World}

theorem hOld (w : World) (o : Obj) (i : Nat) (h : i < w.heap.size) : (w.alloc o).heap[i]? = w.heap[i]? := Below.heap_alloc w o i h
theorem hNew (w : World) (o : Obj) : (w.alloc o).heap[w.heap.size]? = some o := by
  show (w.heap.push o)[w.heap.size]? = some o
  rw [Array.getElem?_push, if_pos rfl]
theorem cOld (w : World) (o : Obj) {a : Addr} (h : a.block < w.heap.size) : (w.alloc o).cell? a = w.cell? a := World.cell?_of_block (Below.heap_alloc w o a.block h)

theorem DR.one : ∀ {x : D} {v : Value}, DR w I x v → v.oneCell' = true
  | .int _ _, _, h => by rw [show _ = _ from h]; rfl
  | .bool _, _, h => by rw [show _ = _ from h]; rfl
  | .str _, _, h => by rw [show _ = _ from h]; rfl
  | .nil, _, h => by rw [show _ = _ from h]; rfl
  | .slc _ _ _, _, ⟨A, cap, h, _⟩ => by rw [h]; rfl
theorem CR.one {c : C} {v : Value} (h : CR w I ρ M c v) : v.oneCell' = true := by
  cases c with
  | d x => exact DR.one h
  | own r n e g => exact DR.one (x := .slc n e g) h.1
  | ptr b o => obtain ⟨_, _, _, _, h⟩ := h; rw [h]; rfl
  | ref sz g => obtain ⟨_, h, _⟩ := h; rw [h]; rfl
  | fn f fs cs => obtain ⟨_, _, h, _⟩ := h; rw [h]; rfl
  | unk => exact h
theorem cells_of_one {v : Value} (h : v.oneCell' = true) : v.cells = #[v] := by cases v <;> first | rfl | cases h
theorem UR.cells : ∀ {u : U} {v : Value}, UR w I ρ M u v → F2 (CR w I ρ M) (ucells u) v.cells.toList
  | .one c, v, h => by rw [cells_of_one (CR.one h)]; exact ⟨h, trivial⟩
  | .agg cs, v, ⟨arr, hv, h⟩ => by rw [hv]; exact h

theorem heap_of_var {r : Nat} {cs : List C} {rb : Nat} (hS : Sat I ρ M w) (h : M[r]? = some (.var cs)) (h2 : ρ[r]? = some (some rb)) :
    ∃ arr T, w.heap[rb]? = some (.cells arr T (0, 0)) ∧ F2 (CR w I ρ M) cs arr.toList ∧ ∀ a, I a → a.block ≠ rb := by
  obtain ⟨rb', arr, T, h3, h4⟩ := hS.var r cs h
  rw [h2] at h3
  obtain rfl : rb = rb' := by simpa using h3
  exact ⟨arr, T, h4⟩

theorem Sat.lt (hS : Sat I ρ M w) {r rb : Nat} (h : ρ[r]? = some (some rb)) : rb < w.heap.size := by
  have hr : r < M.length := by rw [← hS.len]; exact lt_of_getElem? h
  obtain ⟨b, hb⟩ : ∃ b, M[r]? = some b := ⟨_, List.getElem?_eq_getElem hr⟩
  cases b with
  | var cs => obtain ⟨arr, T, h1, _⟩ := heap_of_var hS hb h; exact (Array.getElem?_eq_some_iff.1 h1).1
  | tick n e => obtain ⟨⟨arr, T, h1⟩, _⟩ := hS.tick r n e rb hb h; exact (Array.getElem?_eq_some_iff.1 h1).1
  | gone => have := hS.gone r hb; rw [this] at h; cases h

theorem Sat.immLt (hS : Sat I ρ M w) {a : Addr} (h : I a) : a.block < w.heap.size := by
  obtain ⟨u, hu⟩ := hS.imm a h
  exact World.block_lt_of_cell? w a hu

/-- A new block: what held of cells holds still. -/
theorem alloc_cr {s : Nat} {X : B} {arr : Array Value} {T : TypeId} (hS : Sat I ρ M w) (hI : ∀ a, I a → I' a)
    (hs : M[s]? = some .gone ∨ ∃ m e m' e', M[s]? = some (.tick m e) ∧ X = .tick m' e' ∧ m < m') :
    ∀ c v, CR w I ρ M c v → CR (w.alloc (.cells arr T)) I' (ρ.set s (some w.heap.size)) (M.set s X) c v := by
  have hlt : s < M.length := by rcases hs with h | ⟨_, _, _, _, h, _⟩ <;> exact lt_of_getElem? h
  intro c v
  refine CR.step hI (fun a ha => cOld _ _ (hS.immLt ha)) (fun b cs rb h1 h2 => ?_) (fun r m e h => ?_)
  · have hne : s ≠ b := by
      rintro rfl
      rcases hs with h | ⟨_, _, _, _, h, _⟩ <;> rw [h1] at h <;> cases h
    exact ⟨⟨cs, by rw [List.getElem?_set_ne hne]; exact h1⟩, by rw [List.getElem?_set_ne hne]; exact h2⟩
  · by_cases hne : s = r
    · subst hne
      rcases hs with h0 | ⟨m0, e0, m', e', h0, hX, hm⟩
      · rw [h] at h0; cases h0
      · rw [h] at h0
        cases h0
        exact ⟨m', e', by rw [List.getElem?_set]; simp [hlt, hX], Nat.le_of_lt hm, fun h => by omega⟩
    · refine ⟨m, e, by rw [List.getElem?_set_ne hne]; exact h, Nat.le_refl _, fun _ rb arr' T' h1 h2 => ⟨by rw [List.getElem?_set_ne hne]; exact h1, arr', ?_, rfl⟩⟩
      rw [hOld w _ rb (Array.getElem?_eq_some_iff.1 h2).1]; exact h2

theorem alloc_ext {s : Nat} {X : B} {arr : Array Value} {T : TypeId} (hS : Sat I ρ M w) (hI : ∀ a, I a → I' a) (hI' : ∀ a, I' a → I a ∨ a.block = w.heap.size)
    (hs : M[s]? = some .gone ∨ ∃ m e m' e', M[s]? = some (.tick m e) ∧ X = .tick m' e' ∧ m < m') :
    Ext k I ρ M w I' (ρ.set s (some w.heap.size)) (M.set s X) (w.alloc (.cells arr T)) where
  os := rfl
  tape := rfl
  output := rfl
  size := by simp
  imm := hI
  keep a ha := cOld _ _ (hS.immLt ha)
  frame b hb _ := hOld w _ b hb
  inew a ha := by
    rcases hI' a ha with h | h
    · exact .inl h
    · exact .inr (.inl (by omega))
  img r b h := by
    rcases getElem?_set_of h with ⟨_, h1, _⟩ | ⟨_, h1⟩
    · simp at h1; exact .inl (by omega)
    · exact .inr ⟨r, h1⟩
  cr c v _ := alloc_cr hS hI hs c v

/-- The relation behind a new block, but for what is in the place itself. -/
theorem alloc_sat {s : Nat} {X : B} {arr : Array Value} {T : TypeId} (hS : Sat I ρ M w) (hI : ∀ a, I a → I' a) (hI' : ∀ a, I' a → I a ∨ (a.block = w.heap.size ∧ a.spot = none ∧ a.off < arr.size))
    (hs : M[s]? = some .gone ∨ ∃ m e m' e', M[s]? = some (.tick m e) ∧ X = .tick m' e' ∧ m < m')
    (hX : (∃ cs, X = .var cs ∧ F2 (CR w I ρ M) cs arr.toList ∧ ∀ a, I' a → I a) ∨ ∃ n e, X = .tick n e ∧ ∀ a, I' a → a.block = w.heap.size → a.off < n * e) :
    Sat I' (ρ.set s (some w.heap.size)) (M.set s X) (w.alloc (.cells arr T)) where
  len := by simp [hS.len]
  var r cs h := by
    rcases getElem?_set_of h with ⟨rfl, h1, h2⟩ | ⟨hne, h1⟩
    · rcases hX with ⟨cs', h3, h4, h5⟩ | ⟨n, e, h3, _⟩
      · rw [h3] at h1; cases h1
        refine ⟨w.heap.size, arr, T, by rw [List.getElem?_set]; simp [hS.len, h2], hNew _ _, F2.mono (alloc_cr hS hI hs) h4, fun a ha => ?_⟩
        have := hS.immLt (h5 a ha); omega
      · rw [h3] at h1; cases h1
    · obtain ⟨rb, arr', T', h2, h3, h4, h5⟩ := hS.var r cs h1
      refine ⟨rb, arr', T', by rw [List.getElem?_set_ne hne]; exact h2, ?_, F2.mono (alloc_cr hS hI hs) h4, fun a ha => ?_⟩
      · rw [hOld w _ rb (hS.lt h2)]; exact h3
      · rcases hI' a ha with h | ⟨h, _⟩
        · exact h5 a h
        · have := hS.lt h2; omega
  tick r n e rb h1 h2 := by
    rcases getElem?_set_of h1 with ⟨rfl, h3, h4⟩ | ⟨hne, h3⟩
    · rw [List.getElem?_set] at h2
      simp [hS.len, h4] at h2
      subst h2
      refine ⟨⟨arr, T, hNew _ _⟩, fun a ha hb => ?_⟩
      rcases hX with ⟨cs', h5, _⟩ | ⟨n', e', h5, h6⟩
      · rw [h5] at h3; cases h3
      · rw [h5] at h3; cases h3; exact h6 a ha hb
    · rw [List.getElem?_set_ne hne] at h2
      obtain ⟨⟨arr', T', h4⟩, h5⟩ := hS.tick r n e rb h3 h2
      refine ⟨⟨arr', T', by rw [hOld w _ rb (hS.lt h2)]; exact h4⟩, fun a ha hb => ?_⟩
      rcases hI' a ha with h | ⟨h, _⟩
      · exact h5 a h hb
      · have := hS.lt h2; omega
  gone r h := by
    rcases getElem?_set_of h with ⟨rfl, h1, _⟩ | ⟨hne, h1⟩
    · rcases hX with ⟨cs', h5, _⟩ | ⟨n', e', h5, _⟩ <;> rw [h5] at h1 <;> cases h1
    · rw [List.getElem?_set_ne hne]; exact hS.gone r h1
  inj r r' rb h1 h2 := by
    rcases getElem?_set_of h1 with ⟨rfl, h3, _⟩ | ⟨hne, h3⟩ <;> rcases getElem?_set_of h2 with ⟨rfl, h4, _⟩ | ⟨hne', h4⟩
    · rfl
    · simp at h3; have := hS.lt h4; omega
    · simp at h4; have := hS.lt h3; omega
    · exact hS.inj r r' rb h3 h4
  imm a ha := by
    rcases hI' a ha with h | ⟨h1, h2, h3⟩
    · obtain ⟨u, hu⟩ := hS.imm a h
      exact ⟨u, by rw [cOld _ _ (hS.immLt h)]; exact hu⟩
    · obtain ⟨b, o, sp⟩ := a
      simp only at h1 h2 h3; subst h1; subst h2
      exact ⟨arr[o], by simp [h3]⟩
  glob := hS.glob.step hI (fun a ha => cOld _ _ (hS.immLt ha)) (fun b arr' T' f h => ⟨arr', by rw [hOld w _ b (Array.getElem?_eq_some_iff.1 h).1]; exact h, rfl⟩)

/-- A variable of our own. -/
theorem allocVar {s : Nat} {cs : List C} {arr : Array Value} {T : TypeId} (hS : Sat I ρ M w) (hs : M[s]? = some .gone) (hf : F2 (CR w I ρ M) cs arr.toList) :
    Sat I (ρ.set s (some w.heap.size)) (M.set s (.var cs)) (w.alloc (.cells arr T)) ∧ Ext k I ρ M w I (ρ.set s (some w.heap.size)) (M.set s (.var cs)) (w.alloc (.cells arr T)) ∧
      CR (w.alloc (.cells arr T)) I (ρ.set s (some w.heap.size)) (M.set s (.var cs)) (.ptr s 0) (.pointer (some ⟨w.heap.size, 0, none⟩)) := by
  have hlt := lt_of_getElem? hs
  refine ⟨alloc_sat hS (fun _ h => h) (fun _ h => .inl h) (.inl hs) (.inl ⟨cs, rfl, hf, fun _ h => h⟩), alloc_ext hS (fun _ h => h) (fun _ h => .inl h) (.inl hs), ?_⟩
  exact ⟨w.heap.size, cs, by rw [List.getElem?_set]; simp [hlt], by rw [List.getElem?_set]; simp [hS.len, hlt], rfl⟩

/-- A row of our own in a new block. -/
theorem allocRow {s n e cap : Nat} {g : Nat → Nat → D} {arr : Array Value} {T : TypeId} (hS : Sat I ρ M w)
    (hs : M[s]? = some .gone ∨ ∃ m e', M[s]? = some (.tick m e') ∧ m < n) (he : 0 < e) (hn : n ≤ cap) (hsz : arr.size = cap * e)
    (hd : ∀ i, i < n → ∀ j, j < e → ∃ u, arr[i * e + j]? = some u ∧ DR w I (g i j) u) :
    ∃ I', Sat I' (ρ.set s (some w.heap.size)) (M.set s (.tick n e)) (w.alloc (.cells arr T)) ∧ Ext k I ρ M w I' (ρ.set s (some w.heap.size)) (M.set s (.tick n e)) (w.alloc (.cells arr T)) ∧
      CR (w.alloc (.cells arr T)) I' (ρ.set s (some w.heap.size)) (M.set s (.tick n e)) (.own s n e g) (.slice (some ⟨w.heap.size, 0, none⟩) n cap) := by
  have hlt : s < M.length := by rcases hs with h | ⟨_, _, h, _⟩ <;> exact lt_of_getElem? h
  have hs' : M[s]? = some .gone ∨ ∃ m e0 m' e', M[s]? = some (.tick m e0) ∧ B.tick n e = .tick m' e' ∧ m < m' := by
    rcases hs with h | ⟨m, e', h, hm⟩
    · exact .inl h
    · exact .inr ⟨m, e', n, e, h, rfl, hm⟩
  have hne : n * e ≤ arr.size := by rw [hsz]; exact Nat.mul_le_mul_right e hn
  refine ⟨fun a => I a ∨ (a.block = w.heap.size ∧ a.spot = none ∧ a.off < n * e), ?_, ?_, ?_⟩
  · refine alloc_sat hS (fun _ h => .inl h) (fun a h => h.imp id fun h => ⟨h.1, h.2.1, by omega⟩) hs' (.inr ⟨n, e, rfl, fun a ha hb => ?_⟩)
    rcases ha with h | h
    · have := hS.immLt h; omega
    · exact h.2.2
  · exact alloc_ext hS (fun _ h => .inl h) (fun a h => h.imp id fun h => h.1) hs'
  · have hcell : ∀ i, i < n → ∀ j, j < e → i * e + j < n * e := fun i hi j hj => by
      have : (i + 1) * e ≤ n * e := Nat.mul_le_mul_right e hi
      rw [Nat.add_mul] at this; omega
    refine ⟨⟨some ⟨w.heap.size, 0, none⟩, cap, rfl, hn, fun i hi j hj => ?_⟩, n, e, by rw [List.getElem?_set]; simp [hlt], Nat.le_refl _, fun _ => ⟨_, cap, rfl, .inr ⟨w.heap.size, arr, T, rfl, by rw [List.getElem?_set]; simp [hS.len, hlt], hNew _ _, hsz⟩⟩⟩
    obtain ⟨u, hu, hd⟩ := hd i hi j hj
    have hadd : Addr.add ⟨w.heap.size, 0, none⟩ (i * e + j) = ⟨w.heap.size, i * e + j, none⟩ := by simp [Addr.add_lit]
    refine ⟨_, u, rfl, ?_, ?_, DR.mono (fun _ h => .inl h) (fun a ha => cOld _ _ (hS.immLt ha)) _ hd⟩
    · rw [hadd]; exact .inr ⟨rfl, rfl, hcell i hi j hj⟩
    · rw [hadd]; simp [hu]

end
end Sh
end Go.Proofs.YtamdjlpobonmiaaDoor

/- Loads and stores. -/
namespace Go.Proofs.YtamdjlpobonmiaaDoor
namespace Sh
open Go.RowKit

section
variable {P : Program} {k : Nat} {I I' I'' : Addr → Prop} {ρ ρ' ρ'' : List (Option Nat)} {M M' M'' : List B} {w w' w'' : World}

theorem F2.setAt {α β : Type} {R : α → β → Prop} {xs : List α} {ys : List β} {us : List α} {vs : List β} (n : Nat) (h : F2 R xs ys) (h' : F2 R us vs) : F2 R (setAt xs n us) (setAt ys n vs) := by
  unfold Sh.setAt
  rw [F2.length h']
  exact F2.append (F2.append (F2.take n h) h') (F2.drop _ h)

theorem setAt_length {α : Type} (xs : List α) (n : Nat) (us : List α) (h : n + us.length ≤ xs.length) : (setAt xs n us).length = xs.length := by
  unfold Sh.setAt
  simp
  omega

theorem setAt_get_lt {α : Type} (xs : List α) (n : Nat) (us : List α) (j : Nat) (h : j < n) (hn : n ≤ xs.length) : (setAt xs n us)[j]? = xs[j]? := by
  unfold Sh.setAt
  rw [List.append_assoc, List.getElem?_append_left (by simp; omega), List.getElem?_take_of_lt h]

theorem setAt_get_in {α : Type} (xs : List α) (n : Nat) (us : List α) (j : Nat) (hj : j < us.length) (hn : n ≤ xs.length) : (setAt xs n us)[n + j]? = us[j]? := by
  unfold Sh.setAt
  have hl : (xs.take n).length = n := by simp; omega
  rw [List.append_assoc, List.getElem?_append_right (by omega), hl, List.getElem?_append_left (by omega)]
  congr 1
  omega

theorem add_lit (b o n : Nat) : Addr.add ⟨b, o, none⟩ n = ⟨b, o + n, none⟩ := by simp [Addr.add_lit]

theorem set_setAt {α : Type} (xs : List α) (n : Nat) (u : α) (us : List α) (h : n < xs.length) : setAt (xs.set n u) (n + 1) us = setAt xs n (u :: us) := by
  unfold Sh.setAt
  have h1 : (xs.set n u).take (n + 1) = xs.take n ++ [u] := by
    rw [List.take_succ_eq_append_getElem (by simpa using h), List.take_set_of_le (Nat.le_refl n)]
    simp
  rw [h1, List.drop_set_of_lt (by omega)]
  simp
  congr 1
  omega

theorem run_storeCells (P : Program) (rb off : Nat) (T : TypeId) : ∀ (vs : List Value) (arr : Array Value) (i : Nat) (w : World), w.heap[rb]? = some (.cells arr T (0, 0)) → off + i + vs.length ≤ arr.size → (∀ v ∈ vs, v.oneCell' = true) →
    ∃ w1 arr1, (storeCells ⟨rb, off, none⟩ vs i).run P w = .ok () w1 ∧ w1.heap[rb]? = some (.cells arr1 T (0, 0)) ∧ arr1.toList = setAt arr.toList (off + i) vs ∧ (∀ b, b ≠ rb → w1.heap[b]? = w.heap[b]?) ∧
      w1.heap.size = w.heap.size ∧ w1.os = w.os ∧ w1.tape = w.tape ∧ w1.output = w.output := by
  intro vs
  induction vs with
  | nil => intro arr i w h _ _; exact ⟨w, arr, rfl, h, by simp [setAt], fun _ _ => rfl, rfl, rfl, rfl, rfl⟩
  | cons v vs ih =>
    intro arr i w h hl ho
    have hv := ho v (by simp)
    have hc : w.cell? ⟨rb, off + i, none⟩ = some (arr[off + i]'(by simp at hl; omega)) := by
      rw [cell_of_row w rb (off + i) arr T (0, 0) h]
      simp at hl
      exact Array.getElem?_eq_getElem (by omega)
    have hfz : w.frozen? ⟨rb, off + i, none⟩ = false := frozen_of_row w rb (off + i) arr T h
    have h1 := heap_setCell_same w rb (off + i) arr T v h
    obtain ⟨w1, arr1, r1, r2, r3, r4, r5, r6, r7, r8⟩ := ih (arr.setIfInBounds (off + i) v) (i + 1) (w.setCell ⟨rb, off + i, none⟩ v) h1 (by simp at hl ⊢; omega) (fun u hu => ho u (by simp [hu]))
    refine ⟨w1, arr1, ?_, r2, ?_, fun b hb => (r4 b hb).trans (heap_setCell_other w _ b v hb), r5.trans (by simp), r6, r7, r8⟩
    · simp only [storeCells, Sem.run_bind, add_lit]
      rw [run_store P w _ v _ hv, hc]
      simp only [hfz, Bool.false_eq_true, if_false, Result.andThen_ok]
      exact r1
    · rw [r3, Array.toList_setIfInBounds, ← Nat.add_assoc, set_setAt _ _ _ _ (by simp at hl ⊢; omega)]

/-- A block of our own is written. -/
theorem write_cr {s rb : Nat} {X : B} {arr arr1 : Array Value} {T : TypeId} (hS : Sat I ρ M w) (hI : ∀ a, I a → I' a) (hρ : ρ[s]? = some (some rb)) (hh : w.heap[rb]? = some (.cells arr T (0, 0))) (hh1 : w'.heap[rb]? = some (.cells arr1 T (0, 0)))
    (hsz : arr1.size = arr.size) (ho : ∀ b, b ≠ rb → w'.heap[b]? = w.heap[b]?) (hk : ∀ a, I a → w'.cell? a = w.cell? a)
    (hs : (∃ cs cs', M[s]? = some (.var cs) ∧ X = .var cs') ∨ ∃ m e m' e', M[s]? = some (.tick m e) ∧ X = .tick m' e' ∧ m ≤ m') :
    ∀ c v, CR w I ρ M c v → CR w' I' ρ (M.set s X) c v := by
  have hlt : s < M.length := by rw [← hS.len]; exact lt_of_getElem? hρ
  intro c v
  refine CR.step hI hk (fun b cs rb' h1 h2 => ⟨?_, h2⟩) (fun r m e h => ?_)
  · by_cases hne : s = b
    · subst hne
      rcases hs with ⟨_, cs', _, hX⟩ | ⟨_, _, _, _, h3, _⟩
      · exact ⟨cs', by rw [List.getElem?_set]; simp [hlt, hX]⟩
      · rw [h1] at h3; cases h3
    · exact ⟨cs, by rw [List.getElem?_set_ne hne]; exact h1⟩
  · by_cases hne : s = r
    · subst hne
      rcases hs with ⟨_, cs', h3, hX⟩ | ⟨m0, e0, m', e', h3, hX, hm⟩
      · rw [h] at h3; cases h3
      · rw [h] at h3; cases h3
        refine ⟨m', e', by rw [List.getElem?_set]; simp [hlt, hX], hm, fun _ rb' arr' T' h4 h5 => ⟨h4, ?_⟩⟩
        rw [hρ] at h4; simp at h4; subst h4
        rw [hh] at h5; cases h5
        exact ⟨arr1, hh1, hsz⟩
    · refine ⟨m, e, by rw [List.getElem?_set_ne hne]; exact h, Nat.le_refl _, fun _ rb' arr' T' h4 h5 => ⟨h4, arr', ?_, rfl⟩⟩
      have : rb' ≠ rb := by rintro rfl; exact hne (hS.inj _ _ _ hρ h4)
      rw [ho _ this]; exact h5

theorem write_sat {s rb : Nat} {X : B} {arr arr1 : Array Value} {T : TypeId} (hS : Sat I ρ M w) (hI : ∀ a, I a → I' a) (hI' : ∀ a, I' a → I a ∨ (a.block = rb ∧ a.spot = none ∧ a.off < arr.size))
    (hρ : ρ[s]? = some (some rb)) (hh : w.heap[rb]? = some (.cells arr T (0, 0))) (hh1 : w'.heap[rb]? = some (.cells arr1 T (0, 0)))
    (hsz : arr1.size = arr.size) (ho : ∀ b, b ≠ rb → w'.heap[b]? = w.heap[b]?) (hk : ∀ a, I a → w'.cell? a = w.cell? a)
    (hs : (∃ cs cs', M[s]? = some (.var cs) ∧ X = .var cs' ∧ F2 (CR w I ρ M) cs' arr1.toList ∧ ∀ a, I' a → I a) ∨ ∃ m e m' e', M[s]? = some (.tick m e) ∧ X = .tick m' e' ∧ m ≤ m' ∧ ∀ a, I' a → a.block = rb → a.off < m' * e') :
    Sat I' ρ (M.set s X) w' := by
  have hs' : (∃ cs cs', M[s]? = some (.var cs) ∧ X = .var cs') ∨ ∃ m e m' e', M[s]? = some (.tick m e) ∧ X = .tick m' e' ∧ m ≤ m' := by
    rcases hs with ⟨a, b, c, d, _⟩ | ⟨a, b, c, d, e, f, g, _⟩
    · exact .inl ⟨a, b, c, d⟩
    · exact .inr ⟨a, b, c, d, e, f, g⟩
  have hcr := write_cr (w' := w') hS hI hρ hh hh1 hsz ho hk hs'
  refine ⟨by simp [hS.len], fun r cs h => ?_, fun r n e rb' h h2 => ?_, fun r h => ?_, hS.inj, fun a ha => ?_, hS.glob.step hI hk (fun b arr' T' f h => ?_)⟩
  · rcases getElem?_set_of h with ⟨rfl, h1, h2⟩ | ⟨hne, h1⟩
    · rcases hs with ⟨cs0, cs', h3, h4, h5, h6⟩ | ⟨_, _, _, _, _, h4, _⟩
      · rw [h4] at h1; cases h1
        obtain ⟨arr', T', h7, h8, h9⟩ := heap_of_var hS h3 hρ
        exact ⟨rb, arr1, T, hρ, hh1, F2.mono hcr h5, fun a ha => h9 a (h6 a ha)⟩
      · rw [h4] at h1; cases h1
    · obtain ⟨rb', arr', T', h2, h3, h4, h5⟩ := hS.var r cs h1
      have hne' : rb' ≠ rb := by rintro rfl; exact hne (hS.inj _ _ _ hρ h2)
      refine ⟨rb', arr', T', h2, by rw [ho _ hne']; exact h3, F2.mono hcr h4, fun a ha => ?_⟩
      rcases hI' a ha with h6 | ⟨h6, _⟩
      · exact h5 a h6
      · rw [h6]; exact fun e => hne' e.symm
  · rcases getElem?_set_of h with ⟨rfl, h1, h3⟩ | ⟨hne, h1⟩
    · rcases hs with ⟨_, _, _, h4, _⟩ | ⟨m, e0, m', e', h3, h4, h5, h6⟩
      · rw [h4] at h1; cases h1
      · rw [h4] at h1; cases h1
        rw [hρ] at h2; simp at h2; subst h2
        exact ⟨⟨arr1, T, hh1⟩, h6⟩
    · obtain ⟨⟨arr', T', h3⟩, h4⟩ := hS.tick r n e rb' h1 h2
      have hne' : rb' ≠ rb := by rintro rfl; exact hne (hS.inj _ _ _ hρ h2)
      refine ⟨⟨arr', T', by rw [ho _ hne']; exact h3⟩, fun a ha hb => ?_⟩
      rcases hI' a ha with h6 | ⟨h6, _⟩
      · exact h4 a h6 hb
      · exact absurd (hb.symm.trans h6) hne'
  · rcases getElem?_set_of h with ⟨rfl, h1, h3⟩ | ⟨hne, h1⟩
    · rcases hs with ⟨_, _, _, h4, _⟩ | ⟨m, e0, m', e', h3, h4, _⟩ <;> rw [h4] at h1 <;> cases h1
    · exact hS.gone r h1
  · rcases hI' a ha with h1 | ⟨h1, h2, h3⟩
    · rw [hk a h1]; exact hS.imm a h1
    · obtain ⟨b, o, sp⟩ := a
      simp only at h1 h2 h3; subst h1; subst h2
      refine ⟨arr1[o]'(by omega), ?_⟩
      rw [cell_of_row w' b o arr1 T (0, 0) hh1]
      exact Array.getElem?_eq_getElem (by omega)
  · by_cases hb : b = rb
    · subst hb
      rw [hh] at h
      cases h
      exact ⟨arr1, hh1, hsz⟩
    · exact ⟨arr', by rw [ho b hb]; exact h, rfl⟩

theorem write_ext {s rb : Nat} {X : B} {arr arr1 : Array Value} {T : TypeId} (hS : Sat I ρ M w) (hI : ∀ a, I a → I' a) (hI' : ∀ a, I' a → I a ∨ a.block = rb)
    (hρ : ρ[s]? = some (some rb)) (hh : w.heap[rb]? = some (.cells arr T (0, 0))) (hh1 : w'.heap[rb]? = some (.cells arr1 T (0, 0)))
    (hsz : arr1.size = arr.size) (ho : ∀ b, b ≠ rb → w'.heap[b]? = w.heap[b]?) (hk : ∀ a, I a → w'.cell? a = w.cell? a)
    (hs : (∃ cs cs', M[s]? = some (.var cs) ∧ X = .var cs') ∨ ∃ m e m' e', M[s]? = some (.tick m e) ∧ X = .tick m' e' ∧ m ≤ m')
    (hos : w'.os = w.os) (htp : w'.tape = w.tape) (hou : w'.output = w.output) (hsize : w'.heap.size = w.heap.size) :
    Ext k I ρ M w I' ρ (M.set s X) w' where
  os := hos
  tape := htp
  output := hou
  size := by omega
  imm := hI
  keep := hk
  frame b _ hn := ho b (by rintro rfl; exact hn s hρ)
  inew a ha := by
    rcases hI' a ha with h | h
    · exact .inl h
    · exact .inr (.inr ⟨s, by rw [h]; exact hρ⟩)
  img r b h := .inr ⟨r, h⟩
  cr c v _ := write_cr hS hI hρ hh hh1 hsz ho hk hs c v

theorem cell_other {rb : Nat} (ho : ∀ b, b ≠ rb → w'.heap[b]? = w.heap[b]?) {a : Addr} (h : a.block ≠ rb) : w'.cell? a = w.cell? a := World.cell?_of_block (ho _ h)

theorem kind_info {t : TypeId} {b : Bool} (h : kindOf P t = some b) : ∃ i, P.info? t = some i := by
  unfold kindOf Program.underlying at h
  cases hi : P.info? t with
  | none => simp [hi] at h
  | some i => exact ⟨i, rfl⟩

theorem run_typeInfo {t : TypeId} {i : TypeInfo} (h : P.info? t = some i) (w : World) : (typeInfo t).run P w = .ok i w := by simp [typeInfo, h]
theorem cellsOf_eq {t : TypeId} {i : TypeInfo} (h : P.info? t = some i) : P.cellsOf t = i.size := by simp [Program.cellsOf, h]
theorem run_sizeOf' {t : TypeId} {i : TypeInfo} (h : P.info? t = some i) (w : World) : (sizeOf t).run P w = .ok i.size w := by simp [sizeOf, run_typeInfo h]
theorem run_isAgg {t : TypeId} {b : Bool} (h : kindOf P t = some b) (w : World) : (isAgg t).run P w = .ok b w := by
  unfold kindOf at h
  cases hu : P.underlying t with
  | none => simp [hu] at h
  | some d =>
    simp only [isAgg, Sem.run_bind, run_underlying hu, Result.andThen_ok]
    cases d <;> simp [hu] at h <;> subst h <;> rfl

theorem run_loadVar_agg {t : TypeId} {a : Addr} (hk : kindOf P t = some true) (vs : List Value) (hl : vs.length = P.cellsOf t) (h : ∀ (j : Nat) v, vs[j]? = some v → w.cell? (a.add j) = some v) :
    (loadVar t a).run P w = .ok (.agg vs.toArray) w := by
  obtain ⟨i, hi⟩ := kind_info hk
  rw [cellsOf_eq hi] at hl
  simp only [loadVar, Sem.run_bind, run_isAgg hk, Result.andThen_ok, if_true, run_sizeOf' hi, ← hl, run_loadCells_list w a vs h, Sem.run_pure]

theorem run_loadVar_one {t : TypeId} {a : Addr} {v : Value} (hk : kindOf P t = some false) (h : w.cell? a = some v) : (loadVar t a).run P w = .ok v w := by
  simp only [loadVar, Sem.run_bind, run_isAgg hk, Result.andThen_ok, Bool.false_eq_true, if_false, run_load, h]

end
end Sh
end Go.Proofs.YtamdjlpobonmiaaDoor

/- The operations, one by one. -/
namespace Go.Proofs.YtamdjlpobonmiaaDoor
namespace Sh
open Go.RowKit

section
variable {P : Program} {k : Nat} {I I' I'' : Addr → Prop} {ρ ρ' ρ'' : List (Option Nat)} {M M' M'' : List B} {w w' w'' : World}

theorem ofC_ok : ∀ {v : Value}, v.oneCell' = true → CR w I ρ M (ofC v) v
  | .int _ _, _ | .bool _, _ | .string _, _ => rfl
  | .slice none 0 0, _ => rfl
  | .slice none 0 (_ + 1), h | .slice none (_ + 1) _, h | .slice (some _) _ _, h => h
  | .float _ _, h | .complex _ _ _, h | .pointer _, h | .map _, h | .chan _, h | .func _ _ _, h | .nilFunc, h | .iface _ _, h | .nilIface, h => h

theorem opnd_ok {ts : List V} {a : Act} (hT : F2 (VR w I ρ M) ts a.tmps.toList) : ∀ x : Operand, VR w I ρ M (opnd ts x) (a.eval x)
  | .tmp t => by
    have hl : ts.length = a.tmps.size := by rw [F2.length hT]; simp
    simp only [opnd, Act.eval]
    by_cases h : t < ts.length
    · obtain ⟨v, hv, hr⟩ := F2.get hT (List.getElem?_eq_getElem h)
      have h1 : ts.getD t (.tup []) = ts[t] := by simp [List.getD, h]
      have h2 : a.tmps.getD t undef = v := by
        rw [Array.getD_eq_getD_getElem?]
        simp at hv
        rw [hv]; rfl
      rw [h1, h2]; exact hr
    · have h1 : ts.getD t (.tup []) = .tup [] := by simp [List.getD, h]
      have h2 : a.tmps.getD t undef = undef := by
        have h3 : a.tmps.size ≤ t := by rw [← hl]; exact Nat.not_lt.1 h
        rw [Array.getD_eq_getD_getElem?, Array.getElem?_eq_none h3]; rfl
      rw [h1, h2]; exact ⟨#[], rfl, trivial⟩
  | .const v => by
    simp only [opnd, Act.eval]
    cases h : v.oneCell' with
    | false => exact trivial
    | true => exact ofC_ok h
  | .global _ => rfl
  | .func _ => ⟨#[], #[], rfl, trivial, trivial⟩

/-- What an operation leads to. -/
def Leads (P : Program) (o : Oper) (a : Act) (k : Nat) (I : Addr → Prop) (ρ : List (Option Nat)) (M : List B) (w : World) (v : V) (M' : List B) : Prop :=
  ∀ (next : Act → World → Prop) (Q : Exit → Act → World → Prop),
    (∀ w' I' ρ' u, Sat I' ρ' M' w' → VR w' I' ρ' M' v u → Ext k I ρ M w I' ρ' M' w' → next (a.put o.dst u) w') → o.wp P a w next Q

theorem Leads.value {o : Oper} {a : Act} {v : V} {u : Value} (h : (execOp a.eval o).run P w = .ok (.value u) w') (hS : Sat I' ρ' M' w') (hv : VR w' I' ρ' M' v u) (hE : Ext k I ρ M w I' ρ' M' w') :
    Leads P o a k I ρ M w v M' := fun next Q hn => by
  unfold Oper.wp
  rw [h]
  exact hn w' I' ρ' u hS hv hE

theorem Leads.pure {o : Oper} {a : Act} {v : V} {u : Value} (hS : Sat I ρ M w) (h : (execOp a.eval o).run P w = .ok (.value u) w) (hv : VR w I ρ M v u) : Leads P o a k I ρ M w v M :=
  .value h hS hv .refl

theorem Leads.skip {o : Oper} {a : Act} (h : (execOp a.eval o).run P w = .ok .skip w') (hS : Sat I' ρ' M' w') (hE : Ext k I ρ M w I' ρ' M' w') :
    Leads P o a k I ρ M w (.tup []) M' := fun next Q hn => by
  unfold Oper.wp
  rw [h]
  exact hn w' I' ρ' undef hS ⟨#[], rfl, trivial⟩ hE

theorem setAll_set_comm (bs : List B) : ∀ (M : List B) (s j : Nat) (x : B), j < s → setAll (M.set j x) s bs = (setAll M s bs).set j x := by
  induction bs with
  | nil => intro M s j x _; rfl
  | cons b bs ih =>
    intro M s j x h
    simp only [setAll]
    rw [List.set_comm _ _ (by omega), ih _ _ _ _ (by omega)]

theorem zeroC_ok {t : TypeId} {cs : List C} (h : zeroC P t = some cs) : ∃ v, (∀ w, (zeroValue t).run P w = .ok v w) ∧ F2 (CR w I ρ M) cs v.cells.toList ∧ (∃ i, P.info? t = some i ∧ i.zero = some v) := by
  unfold zeroC at h
  cases hi : P.info? t with
  | none => simp [hi] at h
  | some i =>
    cases hz : i.zero with
    | none => simp [hi, hz] at h
    | some v =>
      simp only [hi, hz] at h
      cases ho : v.cells.toList.all Value.oneCell' with
      | false => simp [ho] at h
      | true =>
        simp only [ho, cond_true, Option.some.injEq] at h
        subst h
        refine ⟨v, fun w => by simp [zeroValue, run_typeInfo hi, hz], ?_, i, rfl, hz⟩
        have : ∀ l : List Value, l.all Value.oneCell' = true → F2 (CR w I ρ M) (l.map ofC) l := by
          intro l
          induction l with
          | nil => intro _; trivial
          | cons x l ih => intro h; simp at h; exact ⟨ofC_ok h.1, ih (by simpa using h.2)⟩
        exact this _ ho

/-- The places of a block and of the rows behind it. -/
theorem allocNil {s : Nat} {cs : List C} {es : List Nat} {arr : Array Value} {T : TypeId} (hS : Sat I ρ M w) (hf : F2 (CR w I ρ M) cs arr.toList)
    (hg : ∀ j, j < ((B.var (nilOwn es cs (s + 1)).1) :: (nilOwn es cs (s + 1)).2).length → M[s + j]? = some .gone) :
    ∃ ρ', Sat I ρ' (setAll M s ((B.var (nilOwn es cs (s + 1)).1) :: (nilOwn es cs (s + 1)).2)) (w.alloc (.cells arr T)) ∧
      Ext k I ρ M w I ρ' (setAll M s ((B.var (nilOwn es cs (s + 1)).1) :: (nilOwn es cs (s + 1)).2)) (w.alloc (.cells arr T)) ∧
      CR (w.alloc (.cells arr T)) I ρ' (setAll M s ((B.var (nilOwn es cs (s + 1)).1) :: (nilOwn es cs (s + 1)).2)) (.ptr s 0) (.pointer (some ⟨w.heap.size, 0, none⟩)) := by
  obtain ⟨h1, h2, h3, h4⟩ := nilOwn_ok (k := k) hS es cs arr.toList (s + 1) hf (fun j hj => by
    have := hg (j + 1) (by simpa using hj)
    rwa [show s + 1 + j = s + (j + 1) from by omega])
  have hs : (setAll M (s + 1) (nilOwn es cs (s + 1)).2)[s]? = some .gone := by
    rw [setAll_get _ _ _ _ (by omega)]
    exact hg 0 (by simp)
  obtain ⟨h5, h6, h7⟩ := allocVar (k := k) (T := T) h1 hs h4
  have he : setAll M s ((B.var (nilOwn es cs (s + 1)).1) :: (nilOwn es cs (s + 1)).2) = (setAll M (s + 1) (nilOwn es cs (s + 1)).2).set s (.var (nilOwn es cs (s + 1)).1) := by
    simp only [setAll]
    rw [setAll_set_comm _ _ _ _ _ (by omega)]
  rw [he]
  exact ⟨_, h5, h2.trans h6, h7⟩

theorem core_alloc {o : Oper} {a : Act} {t : TypeId} {cs : List C} {es : List Nat} {s : Nat} (hS : Sat I ρ M w) (ho : o.op = .alloc t) (hz : zeroC P t = some cs)
    (hg : ∀ j, j < ((B.var (nilOwn es cs (s + 1)).1) :: (nilOwn es cs (s + 1)).2).length → M[s + j]? = some .gone) :
    Leads P o a k I ρ M w (.w (.one (.ptr s 0))) (setAll M s ((B.var (nilOwn es cs (s + 1)).1) :: (nilOwn es cs (s + 1)).2)) := by
  obtain ⟨v, h1, h2, _⟩ := zeroC_ok (w := w) (I := I) (ρ := ρ) (M := M) hz
  obtain ⟨ρ', h3, h4, h5⟩ := allocNil (k := k) (T := t) hS h2 hg
  refine .value (u := .pointer (some ⟨w.heap.size, 0, none⟩)) ?_ h3 h5 h4
  simp [execOp, ho, Instr.alloc, h1, newVar, newRow]

theorem core_box {o : Oper} {a : Act} {t : TypeId} {x : Operand} {u : U} {s : Nat} (hS : Sat I ρ M w) (ho : o.op = .box t x) (hx : UR w I ρ M u (a.eval x)) (hg : M[s]? = some .gone) :
    Leads P o a k I ρ M w (.w (.one (.ptr s 0))) (M.set s (.var (ucells u))) := by
  obtain ⟨h5, h6, h7⟩ := allocVar (k := k) (T := t) hS hg (UR.cells hx)
  refine .value (u := .pointer (some ⟨w.heap.size, 0, none⟩)) ?_ h5 h7 h6
  simp [execOp, ho, Instr.box, newVar, newRow]

theorem core_nil {o : Oper} {a : Act} {x : Operand} {e s : Nat} (hS : Sat I ρ M w) (ho : o.op = .move x ∨ o.op = .assign x) (hx : VR w I ρ M (.w (.one (.d .nil))) (a.eval x)) (hg : M[s]? = some .gone) :
    Leads P o a k I ρ M w (.w (.one (.own s 0 e dg))) (M.set s (.tick 0 e)) := by
  have hx' : a.eval x = .slice none 0 0 := hx
  obtain ⟨h1, h2, h3, _⟩ := tick0 (k := k) (e := e) hS hg
  refine .value (u := .slice none 0 0) ?_ h1 h3 h2
  rcases ho with ho | ho <;> simp [execOp, ho, hx']

theorem core_move {o : Oper} {a : Act} {x : Operand} {v : V} (hS : Sat I ρ M w) (ho : o.op = .move x ∨ o.op = .assign x) (hx : VR w I ρ M v (a.eval x)) : Leads P o a k I ρ M w v M := by
  refine .pure hS (u := a.eval x) ?_ hx
  rcases ho with ho | ho <;> simp [execOp, ho]

theorem vb_eq {b : Bool} {v : Value} (h : VR w I ρ M (vb b) v) : v = .bool b := h
theorem vi_eq {n : Int} {v : Value} (h : VR w I ρ M (vi n) v) : v = .int .i64 n := h

theorem core_pick {o : Oper} {a : Act} {c x y : Operand} {b : Bool} {v : V} (hS : Sat I ρ M w) (ho : o.op = .pick c x y) (hc : VR w I ρ M (vb b) (a.eval c)) (hv : VR w I ρ M v (bif b then a.eval x else a.eval y)) :
    Leads P o a k I ρ M w v M := by
  refine .pure hS (u := bif b then a.eval x else a.eval y) ?_ hv
  have := vb_eq hc
  cases b <;> simp [execOp, ho, this, asBool]

/-- Parts. -/
def PartsR (w : World) (I : Addr → Prop) (ρ : List (Option Nat)) (M : List B) : List (Nat × U) → List (Nat × Value) → Prop := F2 fun p q => p.1 = q.1 ∧ UR w I ρ M p.2 q.2

theorem foldl_set (vs : List Value) : ∀ (cells : Array Value) (off n : Nat), off + n + vs.length ≤ cells.size →
    ((vs.zipIdx n).foldl (fun (cs : Array Value) (p : Value × Nat) => cs.setIfInBounds (off + p.2) p.1) cells).toList = setAt cells.toList (off + n) vs := by
  induction vs with
  | nil => intro cells off n _; simp [setAt]
  | cons v vs ih =>
    intro cells off n h
    simp only [List.zipIdx_cons, List.foldl_cons]
    simp only [List.length_cons] at h
    rw [ih _ _ _ (by simp; omega), Array.toList_setIfInBounds, ← Nat.add_assoc, set_setAt _ _ _ _ (by simp; omega)]

theorem fillU_ok {place : Nat → Option (Nat × Nat)} : ∀ (us : List (Nat × U)) (ps : List (Nat × Value)) (cs cs' : List C) (cells : Array Value), PartsR w I ρ M us ps → F2 (CR w I ρ M) cs cells.toList → fillU place us cs = some cs' →
    ∃ cells', Instr.fill place cells ps = some cells' ∧ F2 (CR w I ρ M) cs' cells'.toList := by
  intro us
  induction us with
  | nil =>
    intro ps cs cs' cells hp hc h
    obtain rfl := F2.nil_left hp
    simp [fillU] at h; subst h
    exact ⟨cells, rfl, hc⟩
  | cons u us ih =>
    intro ps cs cs' cells hp hc h
    obtain ⟨q, ps, rfl, ⟨hq1, hq2⟩, hp'⟩ := F2.cons_left hp
    obtain ⟨i, u⟩ := u
    obtain ⟨i', v⟩ := q
    simp only at hq1 hq2
    subst hq1
    simp only [fillU] at h
    cases hpl : place i with
    | none => simp [hpl] at h
    | some x =>
      obtain ⟨off, size⟩ := x
      simp only [hpl] at h
      cases hb : Nat.beq (ucells u).length size && Nat.ble (off + size) cs.length with
      | false => simp [hb] at h
      | true =>
        simp only [hb, cond_true] at h
        simp only [Bool.and_eq_true, Nat.beq_eq, Nat.ble_eq] at hb
        have hcells := UR.cells hq2
        have hl1 := F2.length hcells
        have hl2 := F2.length hc
        have hsz : v.cells.size = size := by rw [← hb.1, hl1]; simp
        have hcs : cells.size = cs.length := by rw [hl2]; simp
        have hbd : ¬ (v.cells.size ≠ size ∨ off + v.cells.size > cells.size) := by omega
        have hset : (v.cells.zipIdx.foldl (fun (cs : Array Value) (p : Value × Nat) => cs.setIfInBounds (off + p.2) p.1) cells).toList = setAt cells.toList off v.cells.toList := by
          rw [← Array.foldl_toList, Array.toList_zipIdx, foldl_set _ _ _ _ (by simp; omega)]
          simp
        obtain ⟨cells', h1, h2⟩ := ih ps (setAt cs off (ucells u)) cs' (v.cells.zipIdx.foldl (fun (cs : Array Value) (p : Value × Nat) => cs.setIfInBounds (off + p.2) p.1) cells) hp' (by rw [hset]; exact F2.setAt off hc hcells) h
        refine ⟨cells', ?_, h2⟩
        simp only [Instr.fill, hpl]
        rw [if_neg (by simpa using hbd)]
        exact h1

theorem partsU_ok {ts : List V} {a : Act} (hT : F2 (VR w I ρ M) ts a.tmps.toList) : ∀ (ps : List (Nat × Operand)) (us : List (Nat × U)), partsU (opnd ts) ps = some us → PartsR w I ρ M us (ps.map fun p => (p.1, a.eval p.2)) := by
  intro ps
  induction ps with
  | nil => intro us h; simp [partsU] at h; subst h; trivial
  | cons p ps ih =>
    intro us h
    obtain ⟨i, x⟩ := p
    simp only [partsU] at h
    have hx := opnd_ok hT x
    cases ho : opnd ts x with
    | w u =>
      cases hr : partsU (opnd ts) ps with
      | none => simp [ho, hr] at h
      | some l =>
        simp [ho, hr] at h; subst h
        rw [ho] at hx
        exact ⟨⟨rfl, hx⟩, ih l hr⟩
    | tup us => simp [ho] at h
    | any => simp [ho] at h

theorem argsU_ok {ts : List V} {a : Act} (hT : F2 (VR w I ρ M) ts a.tmps.toList) : ∀ (ps : List Operand) (us : List U), argsU (opnd ts) ps = some us → F2 (UR w I ρ M) us (ps.map a.eval) := by
  intro ps
  induction ps with
  | nil => intro us h; simp [argsU] at h; subst h; trivial
  | cons x ps ih =>
    intro us h
    simp only [argsU] at h
    have hx := opnd_ok hT x
    cases ho : opnd ts x with
    | w u =>
      cases hr : argsU (opnd ts) ps with
      | none => simp [ho, hr] at h
      | some l =>
        simp [ho, hr] at h; subst h
        rw [ho] at hx
        exact ⟨hx, ih l hr⟩
    | tup us => simp [ho] at h
    | any => simp [ho] at h

theorem ptrsOf_ok {ts : List V} {a : Act} (hT : F2 (VR w I ρ M) ts a.tmps.toList) : ∀ (ps : List Operand) (us : List (Nat × Nat)), ptrsOf (opnd ts) ps = some us → F2 (PtrR ρ M) us (ps.map a.eval) := by
  intro ps
  induction ps with
  | nil => intro us h; simp [ptrsOf] at h; subst h; trivial
  | cons x ps ih =>
    intro us h
    simp only [ptrsOf] at h
    have hx := opnd_ok hT x
    split at h
    · rename_i b o' l h1 h2
      simp at h; subst h
      rw [h1] at hx
      exact ⟨hx, ih l h2⟩
    · cases h

theorem builtC_ok {t : TypeId} {us : List (Nat × U)} {ps : List (Nat × Value)} {cs : List C} (hp : PartsR w I ρ M us ps) (h : builtC P t us = some cs) : ∃ cells, P.built t ps = some cells ∧ F2 (CR w I ρ M) cs cells.toList := by
  unfold builtC at h
  unfold Program.built
  split at h
  · rename_i it n e hi hu
    split at h
    · rename_i z ie hz hie
      obtain ⟨v, _, h2, i, h3, h4⟩ := zeroC_ok (w := w) (I := I) (ρ := ρ) (M := M) hz
      rw [hi] at h3; cases h3
      obtain ⟨cells, h5, h6⟩ := fillU_ok us ps z cs v.cells hp h2 h
      exact ⟨cells, by simp only [hi, hu, h4, hie]; exact h5, h6⟩
    · cases h
  · rename_i it fields hi hu
    split at h
    · rename_i z places hz hpl
      obtain ⟨v, _, h2, i, h3, h4⟩ := zeroC_ok (w := w) (I := I) (ρ := ρ) (M := M) hz
      rw [hi] at h3; cases h3
      obtain ⟨cells, h5, h6⟩ := fillU_ok us ps z cs v.cells hp h2 h
      exact ⟨cells, by simp only [hi, hu, h4, hpl]; exact h5, h6⟩
    · cases h
  · cases h

theorem core_build {o : Oper} {a : Act} {ts : List V} {t : TypeId} {ps : Array (Nat × Operand)} {us : List (Nat × U)} {cs : List C} {es : List Nat} {s : Nat} (hS : Sat I ρ M w) (hT : F2 (VR w I ρ M) ts a.tmps.toList) (ho : o.op = .build t ps)
    (hp : partsU (opnd ts) ps.toList = some us) (hb : builtC P t us = some cs) (hg : ∀ j, j < (nilOwn es cs s).2.length → M[s + j]? = some .gone) :
    Leads P o a k I ρ M w (.w (.agg (nilOwn es cs s).1)) (setAll M s (nilOwn es cs s).2) := by
  obtain ⟨cells, h1, h2⟩ := builtC_ok (partsU_ok hT _ _ hp) hb
  obtain ⟨h3, h4, h5, h6⟩ := nilOwn_ok (k := k) hS es cs cells.toList s h2 hg
  refine .value (u := .agg cells) ?_ h3 ⟨cells, rfl, h6⟩ h4
  have h1' : P.built t (ps.map fun x => (x.1, a.eval x.2)).toList = some cells := by rw [Array.toList_map]; exact h1
  simp only [execOp, ho, Sem.run_bind, run_build w t _ cells h1', Result.andThen_ok, Sem.run_pure]

end
end Sh
end Go.Proofs.YtamdjlpobonmiaaDoor
