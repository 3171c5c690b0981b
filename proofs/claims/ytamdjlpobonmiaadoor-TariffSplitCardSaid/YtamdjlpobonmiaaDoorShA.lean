/- The shadow evaluator: a functional evaluator of the model's code over shadow memory. Definitions alone. -/
import Derived.WalkKit
import Derived.WalkLawsBesides
import Derived.Orders
namespace Go.Proofs.YtamdjlpobonmiaaDoor
namespace Sh

inductive D where
  | int (k : IntKind) (n : Int)
  | bool (b : Bool)
  | str (s : ByteArray)
  | nil
  | slc (n e : Nat) (get : Nat → Nat → D)
instance : Inhabited D := ⟨.nil⟩

inductive C where
  | d (x : D)
  | own (r n e : Nat) (get : Nat → Nat → D)
  | ptr (b o : Nat)
  | ref (sz : Nat) (get : Nat → D)
  | fn (f : FuncId) (fs cs : List (Nat × Nat))
  | unk
instance : Inhabited C := ⟨.unk⟩

inductive U where
  | one (c : C)
  | agg (cs : List C)
instance : Inhabited U := ⟨.one .unk⟩

inductive V where
  | w (u : U)
  | tup (us : List U)
  | any
instance : Inhabited V := ⟨.tup []⟩

inductive B where
  | var (cs : List C)
  | tick (n e : Nat)
  | gone
instance : Inhabited B := ⟨.gone⟩

abbrev vi (n : Int) : V := .w (.one (.d (.int .i64 n)))
abbrev vb (b : Bool) : V := .w (.one (.d (.bool b)))

def ofC : Value → C
  | .int k n => .d (.int k n)
  | .bool b => .d (.bool b)
  | .string s => .d (.str s)
  | .slice none 0 0 => .d .nil
  | _ => .unk
def opnd (ts : List V) : Operand → V
  | .tmp t => ts.getD t (.tup [])
  | .const v => bif v.oneCell' then .w (.one (ofC v)) else .any
  | .global _ => .w (.one .unk)
  | .func f => .w (.one (.fn f [] []))

def kindOf (P : Program) (t : TypeId) : Option Bool :=
  match P.underlying t with
  | some (.struct _) => some true
  | some (.array _ _) => some true
  | some _ => some false
  | none => none

def zeroC (P : Program) (t : TypeId) : Option (List C) :=
  match P.info? t with
  | some i => match i.zero with
    | some v => bif v.cells.toList.all Value.oneCell' then some (v.cells.toList.map ofC) else none
    | none => none
  | none => none

def cellE (P : Program) : Nat → TypeId → List Nat
  | 0, _ => []
  | n + 1, t => match P.underlying t with
    | some (.struct fs) => fs.toList.flatMap fun f => cellE P n f.type
    | some (.array k e) => (List.replicate k (cellE P n e)).flatten
    | some (.slice e) => [P.cellsOf e + 1]
    | some _ => [0]
    | none => []

def dg : Nat → Nat → D := fun _ _ => .nil

/-- Nil slices become rows of length 0 of our own. -/
def nilOwn : List Nat → List C → Nat → List C × List B
  | e :: es, c :: cs, s =>
    match c, e with
    | .d .nil, e + 1 => let r := nilOwn es cs (s + 1); (.own s 0 e dg :: r.1, .tick 0 e :: r.2)
    | c, _ => let r := nilOwn es cs s; (c :: r.1, r.2)
  | [], cs, _ => (cs, [])
  | _, [], _ => ([], [])

def ucells : U → List C
  | .one c => [c]
  | .agg cs => cs

def setAt {α : Type} (cs : List α) (off : Nat) (vs : List α) : List α := cs.take off ++ vs ++ cs.drop (off + vs.length)

def toD : C → Option D
  | .d .nil => some (.slc 0 0 dg)
  | .d x => some x
  | .own _ n e g => some (.slc n e g)
  | _ => none

def toDs : List C → Option (List D)
  | [] => some []
  | c :: cs => match toD c, toDs cs with
    | some x, some xs => some (x :: xs)
    | _, _ => none

/-- An argument as a callee's contract sees it. -/
def argC : C → C
  | .d .nil => .d (.slc 0 0 dg)
  | .own _ n e g => .d (.slc n e g)
  | c => c
def argU : U → U
  | .one c => .one (argC c)
  | .agg cs => .agg (cs.map argC)
def argV : V → V
  | .w u => .w (argU u)
  | .tup us => .tup (us.map argU)
  | .any => .any

def look : List (Nat × B) → Nat → Option B
  | [], _ => none
  | (a, b) :: m, r => bif Nat.beq a r then some b else look m r
def put : List (Nat × B) → Nat → B → List (Nat × B)
  | [], _, _ => []
  | (a, b) :: m, r, x => bif Nat.beq a r then (a, x) :: m else (a, b) :: put m r x

structure Out where
  ok : Bool
  v : V
  m : List (Nat × B)
  al : List B

def fillU (place : Nat → Option (Nat × Nat)) : List (Nat × U) → List C → Option (List C)
  | [], cs => some cs
  | (i, u) :: rest, cs =>
    match place i with
    | none => none
    | some (off, size) =>
      bif Nat.beq (ucells u).length size && Nat.ble (off + size) cs.length then fillU place rest (setAt cs off (ucells u)) else none

def builtC (P : Program) (t : TypeId) (us : List (Nat × U)) : Option (List C) :=
  match P.info? t, P.underlying t with
  | some _, some (.array _ e) =>
    match zeroC P t, P.info? e with
    | some z, some ie => fillU (fun i => some (i * ie.size, ie.size)) us z
    | _, _ => none
  | some _, some (.struct fields) =>
    match zeroC P t, fields.toList.mapM (fun f => (P.info? f.type).map fun i => (f.offset, i.size)) with
    | some z, some places => fillU (fun i => places.toArray[i]?) us z
    | _, _ => none
  | _, _ => none

def partsU (ev : Operand → V) : List (Nat × Operand) → Option (List (Nat × U))
  | [] => some []
  | (i, x) :: rest => match ev x, partsU ev rest with
    | .w u, some l => some ((i, u) :: l)
    | _, _ => none

def argsU (ev : Operand → V) : List Operand → Option (List U)
  | [] => some []
  | x :: rest => match ev x, argsU ev rest with
    | .w u, some l => some (u :: l)
    | _, _ => none

def ptrsOf (ev : Operand → V) : List Operand → Option (List (Nat × Nat))
  | [] => some []
  | x :: rest => match ev x, ptrsOf ev rest with
    | .w (.one (.ptr b o)), some l => some ((b, o) :: l)
    | _, _ => none

def ptrU (p : Nat × Nat) : U := .one (.ptr p.1 p.2)

def fieldOf (P : Program) (s f : Nat) : Option (Nat × Nat) :=
  match P.underlying s with
  | some (.struct fs) => match fs[f]? with
    | some x => match P.info? x.type with
      | some i => some (x.offset, i.size)
      | none => none
    | none => none
  | _ => none

def eqCs : List C → List C → Option Bool
  | [], [] => some true
  | .d (.int k a) :: xs, .d (.int k' b) :: ys => match decide (k = k'), eqCs xs ys with
    | true, some r => some (decide (a = b) && r)
    | _, _ => none
  | .d (.bool a) :: xs, .d (.bool b) :: ys => match eqCs xs ys with
    | some r => some ((a == b) && r)
    | none => none
  | .d (.str a) :: xs, .d (.str b) :: ys => match eqCs xs ys with
    | some r => some ((a.toList == b.toList) && r)
    | none => none
  | _, _ => none

mutual
/-- The cells of a type that is compared, by their kinds (0: a number, 1: a bool, 2: a string): plain ones alone, or structs of these, each field behind the other. -/
def eqSize (P : Program) : Nat → TypeId → Option (List Nat)
  | 0, _ => none
  | n + 1, t => match P.underlying t with
    | some (.int _) => some [0]
    | some .bool => some [1]
    | some .string => some [2]
    | some (.struct fs) => bif P.stoodInHeld t then none else eqSizes P n fs.toList 0
    | _ => none
def eqSizes (P : Program) : Nat → List Field → Nat → Option (List Nat)
  | _, [], _ => some []
  | 0, _ :: _, _ => none
  | n + 1, f :: fs, acc => match eqSize P n f.type, eqSizes P n fs (acc + P.cellsOf f.type) with
    | some s, some r => bif f.name != "_" && Nat.beq f.offset acc && Nat.beq (P.cellsOf f.type) s.length then some (s ++ r) else none
    | _, _ => none
end

def kindC : C → Nat
  | .d (.int _ _) => 0
  | .d (.bool _) => 1
  | .d (.str _) => 2
  | _ => 3

def intOp (op : BinOp) (k : IntKind) (a b : Int) : Option (Bool × V) :=
  match op with
  | .add => some (true, .w (.one (.d (.int k (k.wrap (a + b))))))
  | .sub => some (true, .w (.one (.d (.int k (k.wrap (a - b))))))
  | .mul => some (true, .w (.one (.d (.int k (k.wrap (a * b))))))
  | .quo => some (!decide (b = 0), .w (.one (.d (.int k (k.wrap (a.tdiv b))))))
  | .rem => some (!decide (b = 0), .w (.one (.d (.int k (a.tmod b)))))
  | .and | .or | .xor | .andNot => some (true, .w (.one (.d (.int k (bits op k a b)))))
  | .eql => some (true, vb (decide (a = b)))
  | .neq => some (true, vb (!decide (a = b)))
  | .lss => some (true, vb (decide (a < b)))
  | .leq => some (true, vb (decide (a ≤ b)))
  | .gtr => some (true, vb (decide (b < a)))
  | .geq => some (true, vb (decide (b ≤ a)))
  | .shl => some (!decide (b < 0), .w (.one (.d (.int k (k.wrap (a * 2 ^ (min b.toNat k.bits)))))))
  | .shr => some (!decide (b < 0), .w (.one (.d (.int k (a.fdiv (2 ^ (min b.toNat k.bits)))))))

def strOp (op : BinOp) (x y : ByteArray) : Option (Bool × V) :=
  let eq := x.toList == y.toList
  let lt := Op.bytesLess x.toList y.toList
  match op with
  | .add => some (decide (x.size + y.size ≤ 9223372036854775807), .w (.one (.d (.str (x ++ y)))))
  | .eql => some (true, vb eq)
  | .neq => some (true, vb (!eq))
  | .lss => some (true, vb lt)
  | .leq => some (true, vb (lt || eq))
  | .gtr => some (true, vb (!(lt || eq)))
  | .geq => some (true, vb (!lt))
  | _ => none

def binU (P : Program) (op : BinOp) (t : TypeId) (x y : V) : Option (Bool × V) :=
  match x, y with
  | .w (.one (.d (.int k a))), .w (.one (.d (.int k' b))) =>
    match op with
    | .shl | .shr => intOp op k a b
    | _ => match decide (k = k') with
      | true => intOp op k a b
      | false => none
  | .w (.one (.d (.str a))), .w (.one (.d (.str b))) => strOp op a b
  | .w (.one (.d (.bool a))), .w (.one (.d (.bool b))) =>
    match P.underlying t, op with
    | some .bool, .eql => some (true, vb (a == b))
    | some .bool, .neq => some (true, vb (!(a == b)))
    | _, _ => none
  | .w (.agg xs), .w (.agg ys) =>
    match kindOf P t, eqSize P 40 t, !P.eqGuardType P.depth t, eqCs xs ys, op with
    | some true, some s, true, some r, .eql => bif xs.map kindC == s && ys.map kindC == s then some (true, vb r) else none
    | some true, some s, true, some r, .neq => bif xs.map kindC == s && ys.map kindC == s then some (true, vb (!r)) else none
    | _, _, _, _, _ => none
  | _, _ => none

def unU (op : UnOp) (x : V) : Option V :=
  match op, x with
  | .neg, .w (.one (.d (.int k n))) => some (.w (.one (.d (.int k (k.wrap (0 - n))))))
  | .xor, .w (.one (.d (.int k n))) => some (.w (.one (.d (.int k (bits .xor k (if k.signed then -1 else k.max) n)))))
  | .not, .w (.one (.d (.bool b))) => some (vb (!b))
  | _, _ => none

def sliceC : C → Option (Nat × Nat × (Nat → Nat → D))
  | .d .nil => some (0, 0, dg)
  | .d (.slc n e g) => some (n, e, g)
  | .own _ n e g => some (n, e, g)
  | _ => none

def lenU (P : Program) (t : TypeId) (x : V) : Option V :=
  match P.underlying t, x with
  | some .string, .w (.one (.d (.str s))) => some (vi s.size)
  | some (.array n _), _ => some (vi n)
  | some (.slice _), .w (.one c) => match sliceC c with
    | some (n, _, _) => some (vi n)
    | none => none
  | _, _ => none

def boundOf (ev : Operand → V) : Option Operand → Option (Option Int)
  | none => some none
  | some x => match ev x with
    | .w (.one (.d (.int _ i))) => some (some i)
    | _ => none

def appGet (n : Nat) (g g' : Nat → Nat → D) : Nat → Nat → D := fun i j => bif Nat.blt i n then g i j else g' (i - n) j

/-- The greatest number of elements that append makes here. -/
def appLim (bytes : Nat) : Nat := 140737488355328 / (bytes + 1)

/-- Bytes of a row. -/
def byteOk : D → Bool
  | .int .u8 z => decide (0 ≤ z) && decide (z ≤ 255)
  | _ => false
def byteOf : D → UInt8
  | .int _ z => UInt8.ofNat z.toNat
  | _ => 0
def byteG (n : Nat) (g : Nat → Nat → D) : Bool := (List.range n).all fun i => byteOk (g i 0)
def byteS (n : Nat) (g : Nat → Nat → D) : ByteArray := ⟨((List.range n).map fun i => byteOf (g i 0)).toArray⟩

def core (P : Program) (o : Oper) (ev : Operand → V) (m : List (Nat × B)) (slot : Nat) : Option Out :=
  match o.op with
  | .move x | .assign x =>
    match ev x with
    | .w (.one (.d .nil)) => match P.underlying o.type with
      | some (.slice e) => some ⟨true, .w (.one (.own slot 0 (P.cellsOf e) dg)), m, [.tick 0 (P.cellsOf e)]⟩
      | _ => some ⟨true, .w (.one (.d .nil)), m, []⟩
    | v => some ⟨true, v, m, []⟩
  | .pick c a b =>
    match ev c with
    | .w (.one (.d (.bool x))) => match ev a, ev b with
      | .w (.one (.d (.bool y))), .w (.one (.d (.bool z))) => some ⟨true, vb (bif x then y else z), m, []⟩
      | va, vb' => bif x then some ⟨true, va, m, []⟩ else some ⟨true, vb', m, []⟩
    | _ => none
  | .alloc t => match zeroC P t with
    | some cs => let r := nilOwn (cellE P 20 t) cs (slot + 1); some ⟨true, .w (.one (.ptr slot 0)), m, .var r.1 :: r.2⟩
    | none => none
  | .box _ x => match ev x with
    | .w u => some ⟨true, .w (.one (.ptr slot 0)), m, [.var (ucells u)]⟩
    | _ => none
  | .build t ps => match partsU ev ps.toList with
    | some us => match builtC P t us with
      | some cs => let r := nilOwn (cellE P 20 t) cs slot; some ⟨true, .w (.agg r.1), m, r.2⟩
      | none => none
    | none => none
  | .buildSlice t len ps => match P.underlying t with
    | some (.slice e) => match P.info? e, zeroC P e, partsU ev ps.toList with
      | some i, some z, some us =>
        bif Nat.ble (len * i.size) 16777216 && Nat.beq z.length i.size && Nat.blt 0 i.size then
          match fillU (fun j => some (j * i.size, i.size)) us (List.replicate len z).flatten with
          | some cs => match toDs cs with
            | some ds => some ⟨true, .w (.one (.own slot len i.size fun a j => ds.getD (a * i.size + j) .nil)), m, [.tick len i.size]⟩
            | none => none
          | none => none
        else none
      | _, _, _ => none
    | _ => none
  | .load t a => match ev a, kindOf P t with
    | .w (.one (.ptr b off)), some true => match look m b with
      | some (.var cs) => bif Nat.ble (off + P.cellsOf t) cs.length then some ⟨true, .w (.agg ((cs.drop off).take (P.cellsOf t))), m, []⟩ else none
      | _ => none
    | .w (.one (.ptr b off)), some false => match look m b with
      | some (.var cs) => match cs[off]? with
        | some c => some ⟨true, .w (.one c), m, []⟩
        | none => none
      | _ => none
    | .w (.one (.ref sz g)), some true => bif Nat.ble (P.cellsOf t) sz then some ⟨true, .w (.agg ((List.range (P.cellsOf t)).map fun j => .d (g j))), m, []⟩ else none
    | .w (.one (.ref sz g)), some false => bif Nat.blt 0 sz then some ⟨true, .w (.one (.d (g 0))), m, []⟩ else none
    | _, _ => none
  | .store t a x => match ev a, ev x with
    | .w (.one (.ptr b off)), .w u => match look m b, P.info? t with
      | some (.var cs), some i =>
        bif Nat.beq (ucells u).length i.size && Nat.ble (off + i.size) cs.length then
          some ⟨true, .tup [], put m b (.var (setAt cs off (ucells u))), []⟩ else none
      | _, _ => none
    | _, _ => none
  | .nilCheck x => match ev x with
    | .w (.one (.ptr b off)) => some ⟨true, .w (.one (.ptr b off)), m, []⟩
    | .w (.one (.fn f a b)) => some ⟨true, .w (.one (.fn f a b)), m, []⟩
    | .w (.one (.ref sz g)) => some ⟨true, .w (.one (.ref sz g)), m, []⟩
    | _ => none
  | .binOp op t x y _ => match binU P op t (ev x) (ev y) with
    | some (ok, v) => some ⟨ok, v, m, []⟩
    | none => none
  | .unOp op _ x => match unU op (ev x) with
    | some v => some ⟨true, v, m, []⟩
    | none => none
  | .convert src dst x => match P.underlying src, P.underlying dst, ev x with
    | some _, some (.int k), .w (.one (.d (.int _ n))) => some ⟨true, .w (.one (.d (.int k (k.wrap n)))), m, []⟩
    | some _, some .string, .w (.one (.d (.str s))) => some ⟨true, .w (.one (.d (.str s))), m, []⟩
    | some (.slice te), some .string, .w (.one c) => match sliceC c, P.underlying te with
      | some (n, e, g), some (.int .u8) => some ⟨Nat.blt 0 n && Nat.beq e 1 && byteG n g, .w (.one (.d (.str (byteS n g)))), m, []⟩
      | _, _ => none
    | _, _, _ => none
  | .makeFunc (.func g) fs cs => match ptrsOf ev fs.toList, ptrsOf ev cs.toList with
    | some a, some b => some ⟨true, .w (.one (.fn g a b)), m, []⟩
    | _, _ => none
  | .slice t x lo hi none => match boundOf ev lo, boundOf ev hi, ev x, P.underlying t with
    | some l, some h, .w (.one (.d (.str s))), some .string =>
      let a := l.getD 0; let b := h.getD s.size
      some ⟨decide (0 ≤ a) && decide (a ≤ b) && decide (b ≤ s.size), .w (.one (.d (.str (s.extract a.toNat b.toNat)))), m, []⟩
    | some l, some h, .w (.one c), some (.slice te) => match sliceC c, P.info? te with
      | some (n, e, g), some q =>
        let a := l.getD 0; let b := h.getD n
        some ⟨decide (0 ≤ a) && decide (a ≤ b) && decide (b ≤ n) && (Nat.beq e q.size || Nat.beq n 0), .w (.one (.d (.slc (b.toNat - a.toNat) e fun i j => g (a.toNat + i) j))), m, []⟩
      | _, _ => none
    | some l, some h, .w (.one (.ref sz g)), some (.array len te) => match P.info? te with
      | some q =>
        let a := l.getD 0; let b := h.getD len
        some ⟨decide (0 ≤ a) && decide (a ≤ b) && decide (b ≤ len) && (Nat.ble (len * q.size) sz && Nat.blt 0 q.size), .w (.one (.d (.slc (b.toNat - a.toNat) q.size fun i j => g ((a.toNat + i) * q.size + j)))), m, []⟩
      | none => none
    | _, _, _, _ => none
  | .fieldAddr s x f => match ev x, fieldOf P s f with
    | .w (.one (.ptr b off)), some (fo, fs) => bif Nat.blt 0 fs then some ⟨true, .w (.one (.ptr b (off + fo))), m, []⟩ else none
    | .w (.one (.ref sz g)), some (fo, fs) => bif Nat.blt 0 fs && Nat.ble (fo + fs) sz then some ⟨true, .w (.one (.ref fs fun j => g (fo + j))), m, []⟩ else none
    | _, _ => none
  | .field s x f => match ev x, fieldOf P s f, P.underlying s with
    | .w (.agg cs), some (fo, fs), some (.struct fields) => match (fields[f]?).bind fun q => kindOf P q.type with
      | some true => bif Nat.ble (fo + fs) cs.length then some ⟨true, .w (.agg ((cs.drop fo).take fs)), m, []⟩ else none
      | some false => match cs[fo]? with
        | some c => some ⟨true, .w (.one c), m, []⟩
        | none => none
      | none => none
    | _, _, _ => none
  | .indexAddr t x ix => match ev x, ev ix, P.underlying t with
    | .w (.one (.ptr b off)), .w (.one (.d (.int _ i))), some (.array len e) => match P.info? e with
      | some q => some ⟨decide (0 ≤ i) && decide (i < len), .w (.one (.ptr b (off + i.toNat * q.size))), m, []⟩
      | none => none
    | .w (.one c), .w (.one (.d (.int _ i))), some (.slice te) => match sliceC c, P.info? te with
      | some (n, e, g), some q => some ⟨decide (0 ≤ i) && decide (i < n) && (Nat.beq e q.size && Nat.blt 0 e), .w (.one (.ref e (g i.toNat))), m, []⟩
      | _, _ => none
    | .w (.one (.ref sz g)), .w (.one (.d (.int _ i))), some (.array len e) => match P.info? e with
      | some q => some ⟨decide (0 ≤ i) && decide (i < len) && (Nat.ble (len * q.size) sz && Nat.blt 0 q.size), .w (.one (.ref q.size fun j => g (i.toNat * q.size + j))), m, []⟩
      | none => none
    | _, _, _ => none
  | .index t x ix => match ev x, ev ix, P.underlying t with
    | .w (.one (.d (.str s))), .w (.one (.d (.int _ i))), some .string =>
      some ⟨decide (0 ≤ i) && decide (i < s.size), .w (.one (.d (.int .u8 (((s.data.toList.getD i.toNat 0).toNat : Nat) : Int)))), m, []⟩
    | .w (.agg cs), .w (.one (.d (.int _ i))), some (.array len e) => match P.info? e, kindOf P e with
      | some q, some true => some ⟨decide (0 ≤ i) && decide (i < len) && Nat.ble (i.toNat * q.size + q.size) cs.length, .w (.agg ((cs.drop (i.toNat * q.size)).take q.size)), m, []⟩
      | some q, some false => match cs[i.toNat * q.size]? with
        | some c => some ⟨decide (0 ≤ i) && decide (i < len), .w (.one c), m, []⟩
        | none => none
      | _, _ => none
    | _, _, _ => none
  | .extract x i => match ev x with
    | .tup us => match us[i]? with
      | some u => some ⟨true, .w u, m, []⟩
      | none => none
    | _ => none
  | .call { callee := .builtin b, args, argTypes } =>
    match b, args.toList, argTypes.toList with
    | .len, [x], [t] => match lenU P t (ev x) with
      | some v => some ⟨true, v, m, []⟩
      | none => none
    | .min, [x, y], _ => match ev x, ev y with
      | .w (.one (.d (.int k a))), .w (.one (.d (.int _ c))) => some ⟨true, .w (.one (.d (.int k (if c < a then c else a)))), m, []⟩
      | _, _ => none
    | .max, [x, y], _ => match ev x, ev y with
      | .w (.one (.d (.int k a))), .w (.one (.d (.int _ c))) => some ⟨true, .w (.one (.d (.int k (if c > a then c else a)))), m, []⟩
      | _, _ => none
    | .min, [x, y, z, u], _ => match ev x, ev y, ev z, ev u with
      | .w (.one (.d (.int k a))), .w (.one (.d (.int _ c))), .w (.one (.d (.int _ d))), .w (.one (.d (.int _ e))) =>
        some ⟨true, .w (.one (.d (.int k (let p := if c < a then c else a; let q := if d < p then d else p; if e < q then e else q)))), m, []⟩
      | _, _, _, _ => none
    | .max, [x, y, z, u], _ => match ev x, ev y, ev z, ev u with
      | .w (.one (.d (.int k a))), .w (.one (.d (.int _ c))), .w (.one (.d (.int _ d))), .w (.one (.d (.int _ e))) =>
        some ⟨true, .w (.one (.d (.int k (let p := if c > a then c else a; let q := if d > p then d else p; if e > q then e else q)))), m, []⟩
      | _, _, _, _ => none
    | .append, [x, y], [t, t'] => match ev x, ev y, P.underlying t, P.underlying t' with
      | .w (.one (.own r n e g)), .w (.one c), some (.slice te), some (.slice te') => match sliceC c, look m r, P.info? te with
        | some (n', e', g'), some (.tick k e''), some i =>
          bif Nat.beq e i.size && Nat.beq e e'' && (Nat.beq e e' || Nat.beq n' 0) && Nat.blt 0 e && Nat.beq ((zeroC P te).getD []).length e && Nat.beq te te' then
            some ⟨Nat.beq n k && Nat.ble (n + n') (appLim i.bytes), .w (.one (.own r (n + n') e (appGet n g g'))), put m r (.tick (n + n') e), []⟩
          else none
        | _, _, _ => none
      | _, _, _, _ => none
    | _, _, _ => none
  | _ => none

def cblocks : C → List Nat
  | .ptr b _ => [b]
  | .fn _ fs cs => fs.map (·.1) ++ cs.map (·.1)
  | .own r _ _ _ => [r]
  | _ => []
def ublocks (u : U) : List Nat := (ucells u).flatMap cblocks
def vblocks : V → List Nat
  | .w u => ublocks u
  | .tup us => us.flatMap ublocks
  | .any => []

def addN (l : List Nat) (x : Nat) : List Nat := bif l.any (Nat.beq x) then l else l ++ [x]
def dedup (l : List Nat) : List Nat := l.foldl addN []

structure Tab where
  fn : FuncId → List U → List (Nat × B) → Option (Bool × V × List (Nat × B))
  own : FuncId → Bool
  ro : Oper → Bool := fun _ => false

/-- The blocks that an operation may look at or turn. -/
def foot (op : Op) (ev : Operand → V) : List Nat :=
  match op with
  | .load _ a | .store _ a _ => match ev a with
    | .w (.one (.ptr b _)) => [b]
    | _ => []
  | .call { callee := .builtin _, args, .. } => match args.toList with
    | x :: _ => match ev x with
      | .w (.one (.own r _ _ _)) => [r]
      | _ => []
    | [] => []
  | .call { callee := .value f, args, .. } => dedup (vblocks (ev f) ++ args.toList.flatMap fun x => vblocks (ev x))
  | _ => []

def restrict (M : List B) : List Nat → List (Nat × B)
  | [] => []
  | b :: bs => (b, M.getD b .gone) :: restrict M bs
def upd : List B → List (Nat × B) → List B
  | M, [] => M
  | M, (b, x) :: m => upd (M.set b x) m

structure St where
  tmps : List V
  mem : List B

def setTmp (ts : List V) : Option Tmp → V → List V
  | some d, v => ts.set d v
  | none, _ => ts

/-- What a call of a function value is: the function and its arguments. -/
def callOf (ev : Operand → V) (f : Operand) (args : List Operand) : Option (FuncId × List U) :=
  match ev f, argsU ev args with
  | .w (.one (.fn g fs cs)), some us => some (g, fs.map ptrU ++ us ++ cs.map ptrU)
  | _, _ => none

def tabOf (G : Tab) (g : FuncId) (us : List U) (m : List (Nat × B)) : Option (Bool × V × List (Nat × B)) :=
  bif G.own g then G.fn g us m else G.fn g (us.map argU) m

/-- An operation that is no call, or a call by a contract. -/
def coreT (P : Program) (G : Tab) (o : Oper) (ev : Operand → V) (m : List (Nat × B)) (slot : Nat) : Option Out :=
  match o.op with
  | .call { callee := .value f, args, .. } => match callOf ev f args.toList with
    | some (g, us) => match tabOf G g us m with
      | some (ok, v, m') => some ⟨ok, v, m', []⟩
      | none => none
    | none => none
  | .box _ x => bif G.ro o then (match ev x with
      | .w u => match toDs (ucells u) with
        | some ds => bif Nat.blt 0 ds.length then some ⟨true, .w (.one (.ref ds.length fun j => ds.getD j .nil)), m, [.tick 1 ds.length]⟩ else none
        | none => none
      | _ => none) else core P o ev m slot
  | _ => core P o ev m slot

end Sh
end Go.Proofs.YtamdjlpobonmiaaDoor
