/- The evaluator of code: as a function, and with what comes behind handed in. -/
import Derived.Test.YtamdjlpobonmiaaDoorShA
namespace Go.Proofs.YtamdjlpobonmiaaDoor
namespace Sh

inductive Gd where
  | run
  | skip
  | test (d : Nat) (b want : Bool)
  | bad

def gd (ops : Array Oper) (ts : List V) (o : Oper) : Gd :=
  match o.guard with
  | none => .run
  | some (j, want) => match (ops[j]?).bind (·.dst) with
    | none => .skip
    | some d => match ts[d]? with
      | none => .skip
      | some (.w (.one (.d (.bool b)))) => .test d b want
      | some (.tup []) => .skip
      | _ => .bad

def setAll : List B → Nat → List B → List B
  | M, _, [] => M
  | M, s, b :: bs => setAll (M.set s b) (s + 1) bs

def belowC (k : Nat) : C → Bool
  | .d _ => true
  | .own r _ _ _ => Nat.blt r k
  | .ptr b _ => Nat.blt b k
  | .ref _ _ => true
  | .fn _ fs cs => fs.all (fun p => Nat.blt p.1 k) && cs.all fun p => Nat.blt p.1 k
  | .unk => true
def belowU (k : Nat) (u : U) : Bool := (ucells u).all (belowC k)
def belowV (k : Nat) : V → Bool
  | .w u => belowU k u
  | .tup us => us.all (belowU k)
  | .any => true
def belowB (k : Nat) : B → Bool
  | .var cs => cs.all (belowC k)
  | _ => true

def clearV (n : Nat) (v : V) : V := bif belowV n v then v else .any
def trunc (n : Nat) (st : St) : St := bif (st.mem.take n).all (belowB n) then ⟨st.tmps.map (clearV n), st.mem.take n⟩ else st
def shrink (n : Nat) (v : V) (M : List B) : List B := bif belowV n v && (M.take n).all (belowB n) then M.take n else M

inductive Ex where
  | norm
  | exit (id : Nat)
  | ret

def know (ts : List V) (c : Operand) (b : Bool) : List V :=
  match c with
  | .tmp t => ts.set t (vb b)
  | _ => ts

abbrev CallF := FuncId → List U → List B → Option (V × List B)
abbrev CallK (R : Type) := FuncId → List U → List B → (V → List B → Option R) → Option R
abbrev LoopF := Code → St → Option (Ex × St)
abbrev LoopK (R : Type) := Code → St → (Ex → St → Option R) → Option R

/-- What an operation comes to, but for calls that are gone into. -/
def putOut (st : St) (dst : Option Tmp) (v : V) (m : List (Nat × B)) (al : List B) : St :=
  ⟨setTmp st.tmps dst v, setAll (upd (st.mem ++ List.replicate al.length .gone) m) st.mem.length al⟩

def exR (P : Program) (G : Tab) (call : CallF) (o : Oper) (st : St) : Option St :=
  match coreT P G o (opnd st.tmps) (restrict st.mem (foot o.op (opnd st.tmps))) st.mem.length with
  | some ⟨ok, v, m, al⟩ => bif ok then some (putOut st o.dst v m al) else none
  | none => match o.op with
    | .call { callee := .value f, args, .. } => match callOf (opnd st.tmps) f args.toList with
      | some (g, us) => match call g us st.mem with
        | some (v, mem) => some ⟨setTmp st.tmps o.dst v, mem⟩
        | none => none
      | none => none
    | _ => none

def exRK (P : Program) (G : Tab) {R : Type} (call : CallK R) (o : Oper) (st : St) (k : St → Option R) : Option R :=
  match coreT P G o (opnd st.tmps) (restrict st.mem (foot o.op (opnd st.tmps))) st.mem.length with
  | some ⟨ok, v, m, al⟩ => bif ok then k (putOut st o.dst v m al) else none
  | none => match o.op with
    | .call { callee := .value f, args, .. } => match callOf (opnd st.tmps) f args.toList with
      | some (g, us) => call g us st.mem fun v mem => k ⟨setTmp st.tmps o.dst v, mem⟩
      | none => none
    | _ => none

def skipO (o : Oper) (st : St) : St := ⟨setTmp st.tmps o.dst (.tup []), st.mem⟩

def stepR (P : Program) (G : Tab) (call : CallF) (ops : Array Oper) (o : Oper) (st : St) : Option St :=
  match gd ops st.tmps o with
  | .run => exR P G call o st
  | .skip => some (skipO o st)
  | .test d b want =>
    bif b then (bif want then exR P G call o ⟨st.tmps.set d (vb true), st.mem⟩ else some (skipO o ⟨st.tmps.set d (vb true), st.mem⟩))
    else (bif want then some (skipO o ⟨st.tmps.set d (vb false), st.mem⟩) else exR P G call o ⟨st.tmps.set d (vb false), st.mem⟩)
  | .bad => none

def stepRK (P : Program) (G : Tab) {R : Type} (call : CallK R) (ops : Array Oper) (o : Oper) (st : St) (k : St → Option R) : Option R :=
  match gd ops st.tmps o with
  | .run => exRK P G call o st k
  | .skip => k (skipO o st)
  | .test d b want =>
    bif b then (bif want then exRK P G call o ⟨st.tmps.set d (vb true), st.mem⟩ k else k (skipO o ⟨st.tmps.set d (vb true), st.mem⟩))
    else (bif want then k (skipO o ⟨st.tmps.set d (vb false), st.mem⟩) else exRK P G call o ⟨st.tmps.set d (vb false), st.mem⟩ k)
  | .bad => none

def regR (P : Program) (G : Tab) (call : CallF) (ops : Array Oper) : List Oper → St → Option St
  | [], st => some st
  | o :: os, st => match stepR P G call ops o st with
    | some st' => regR P G call ops os st'
    | none => none

def regRK (P : Program) (G : Tab) {R : Type} (call : CallK R) (ops : Array Oper) : List Oper → St → (St → Option R) → Option R
  | [], st, k => k st
  | o :: os, st, k => stepRK P G call ops o st fun st' => regRK P G call ops os st' k

/- Regions that draw their order. -/

structure Rec where
  looks : List Nat
  dst : Option Nat
  ms : List Nat
  wr : Bool

def memb (x : Nat) : List Nat → Bool
  | [] => false
  | y :: ys => bif Nat.beq x y then true else memb x ys
def disj : List Nat → List Nat → Bool
  | [], _ => true
  | x :: xs, ys => !memb x ys && disj xs ys
def dstIn (d : Option Nat) (l : List Nat) : Bool :=
  match d with
  | some d => memb d l
  | none => false
def dstEq (d e : Option Nat) : Bool :=
  match d, e with
  | some d, some e => Nat.beq d e
  | _, _ => false

def indep (r s : Rec) : Bool := !dstIn r.dst s.looks && !dstIn s.dst r.looks && !dstEq r.dst s.dst && ((!r.wr && !s.wr) || disj r.ms s.ms)

def isWr : Op → Bool
  | .load .. => false
  | .call { callee := .builtin .append, .. } => true
  | .call { callee := .builtin _, .. } => false
  | _ => true

def slotsOf : Nat → Nat → List Nat
  | _, 0 => []
  | s, n + 1 => s :: slotsOf (s + 1) n

def sameKeys : List (Nat × B) → List Nat → Bool
  | [], [] => true
  | (a, _) :: m, b :: l => Nat.beq a b && sameKeys m l
  | _, _ => false

/-- The places of the operation at index i of a region that draws. -/
def stride : Nat := 4

def exD (P : Program) (G : Tab) (ops : Array Oper) (slot : Nat) (o : Oper) (st : St) : Option (Bool × St × Rec) :=
  match coreT P G o (opnd st.tmps) (restrict st.mem (foot o.op (opnd st.tmps))) slot with
  | some ⟨ok, v, m, al⟩ =>
    bif sameKeys m (foot o.op (opnd st.tmps)) && Nat.ble al.length stride && (foot o.op (opnd st.tmps)).all (fun b => Nat.blt b slot) then
      some (ok, ⟨setTmp st.tmps o.dst v, setAll (upd st.mem m) slot al⟩, ⟨o.looksAt ops, o.dst, foot o.op (opnd st.tmps) ++ slotsOf slot al.length, isWr o.op⟩)
    else none
  | none => none

def skipRec (ops : Array Oper) (o : Oper) : Rec := ⟨o.looksAt ops, o.dst, [], false⟩

def stepD (P : Program) (G : Tab) (ops : Array Oper) (slot : Nat) (o : Oper) (st : St) : Option (Bool × St × Rec) :=
  match gd ops st.tmps o with
  | .run => exD P G ops slot o st
  | .skip => some (true, skipO o st, skipRec ops o)
  | .test _ b want => bif b == want then exD P G ops slot o st else some (true, skipO o st, skipRec ops o)
  | .bad => none

def goD (P : Program) (G : Tab) (ops : Array Oper) (base : Nat) : Nat → List Oper → St → List Rec → Option (St × List Rec)
  | _, [], st, rs => some (st, rs)
  | i, o :: os, st, rs => match stepD P G ops (base + i * stride) o st with
    | some (true, st', r) => goD P G ops base (i + 1) os st' (rs ++ [r])
    | _ => none

def stepDK (P : Program) (G : Tab) {R : Type} (ops : Array Oper) (slot : Nat) (o : Oper) (st : St) (k : St → Rec → Option R) : Option R :=
  match gd ops st.tmps o with
  | .run => match exD P G ops slot o st with
    | some (ok, st', r) => bif ok then k st' r else none
    | none => none
  | .skip => k (skipO o st) (skipRec ops o)
  | .test d b want =>
    bif b then
      (bif want then (match exD P G ops slot o ⟨st.tmps.set d (vb true), st.mem⟩ with
        | some (ok, st', r) => bif ok then k st' r else none
        | none => none) else k (skipO o ⟨st.tmps.set d (vb true), st.mem⟩) (skipRec ops o))
    else
      (bif want then k (skipO o ⟨st.tmps.set d (vb false), st.mem⟩) (skipRec ops o) else (match exD P G ops slot o ⟨st.tmps.set d (vb false), st.mem⟩ with
        | some (ok, st', r) => bif ok then k st' r else none
        | none => none))
  | .bad => none

def goDK (P : Program) (G : Tab) {R : Type} (ops : Array Oper) (base : Nat) : Nat → List Oper → St → List Rec → (St → List Rec → Option R) → Option R
  | _, [], st, rs, k => k st rs
  | i, o :: os, st, rs, k => stepDK P G ops (base + i * stride) o st fun st' r => goDK P G ops base (i + 1) os st' (rs ++ [r]) k

/-- Which operations stand before which, by the edges that bind: a number's bits. -/
def befOf (acc : List Nat) : List Edge → Nat
  | [] => 0
  | e :: es => bif Region.binds .any e then 2 ^ e.on ||| acc.getD e.on 0 ||| befOf acc es else befOf acc es
def befs : List Oper → List Nat → List Nat
  | [], acc => acc
  | o :: os, acc => befs os (acc ++ [befOf acc o.after.toList])

def edgesOk : Nat → List Oper → Bool
  | _, [] => true
  | i, o :: os => o.after.toList.all (fun e => !Region.binds .any e || Nat.blt e.on i) && edgesOk (i + 1) os

/-- Operation j against those before it in the text. -/
def checkOne (bef : Nat) (s : Rec) : Nat → List Rec → Bool
  | _, [] => true
  | i, r :: rs => (bef.testBit i || indep r s) && checkOne bef s (i + 1) rs
def checkAll : List Nat → List Rec → List Rec → Bool
  | _, _, [] => true
  | [], _, _ :: _ => false
  | b :: bs, done, r :: rs => checkOne b r 0 done && checkAll bs (done ++ [r]) rs

def startD (st : St) (ops : Array Oper) : St := ⟨st.tmps, st.mem ++ List.replicate (ops.size * stride) .gone⟩
def drawOk (P : Program) (ops : Array Oper) (rs : List Rec) : Bool := P.follows .mixedOrders && edgesOk 0 ops.toList && checkAll (befs ops.toList []) [] rs

/-- Places that nothing came to lie in go again. -/
def trimTail : List B → List B
  | [] => []
  | b :: bs => match trimTail bs with
    | [] => match b with
      | .gone => []
      | b => [b]
    | r => b :: r
def trimD (n : Nat) (st : St) : St := ⟨st.tmps, st.mem.take n ++ trimTail (st.mem.drop n)⟩

def regD (P : Program) (G : Tab) (ops : Array Oper) (st : St) : Option St :=
  match goD P G ops st.mem.length 0 ops.toList (startD st ops) [] with
  | some (st', rs) => bif drawOk P ops rs then some (trimD st.mem.length st') else none
  | none => none

def regDK (P : Program) (G : Tab) {R : Type} (ops : Array Oper) (st : St) (k : St → Option R) : Option R :=
  goDK P G ops st.mem.length 0 ops.toList (startD st ops) [] fun st' rs => bif drawOk P ops rs then k (trimD st.mem.length st') else none

def evC (P : Program) (G : Tab) (loop : LoopF) (call : CallF) : Code → St → Option (Ex × St)
  | .skip, st => some (.norm, st)
  | .label _, st => some (.norm, st)
  | .region _ ops draw, st =>
    match (bif draw then regD P G ops st else regR P G call ops ops.toList st) with
    | some st' => some (.norm, st')
    | none => none
  | .seq x y, st => match evC P G loop call x st with
    | some (.norm, st') => evC P G loop call y st'
    | r => r
  | .cond c x y, st => match opnd st.tmps c with
    | .w (.one (.d (.bool b))) => bif b then evC P G loop call x ⟨know st.tmps c true, st.mem⟩ else evC P G loop call y ⟨know st.tmps c false, st.mem⟩
    | _ => none
  | .block id x, st => match evC P G loop call x st with
    | some (.exit i, st') => bif Nat.beq i id then some (.norm, st') else some (.exit i, st')
    | r => r
  | .loop x, st => match evC P G loop call x st with
    | some (.norm, st') => loop (.loop x) (trunc st.mem.length st')
    | r => r
  | .exit id, st => some (.exit id, st)
  | .ret, st => some (.ret, st)
  | _, _ => none

def evK (P : Program) (G : Tab) {R : Type} (loop : LoopK R) (call : CallK R) : Code → St → (Ex → St → Option R) → Option R
  | .skip, st, k => k .norm st
  | .label _, st, k => k .norm st
  | .region _ ops draw, st, k => bif draw then regDK P G ops st (k .norm) else regRK P G call ops ops.toList st (k .norm)
  | .seq x y, st, k => evK P G loop call x st fun e st' => match e with
    | .norm => evK P G loop call y st' k
    | e => k e st'
  | .cond c x y, st, k => match opnd st.tmps c with
    | .w (.one (.d (.bool b))) => bif b then evK P G loop call x ⟨know st.tmps c true, st.mem⟩ k else evK P G loop call y ⟨know st.tmps c false, st.mem⟩ k
    | _ => none
  | .block id x, st, k => evK P G loop call x st fun e st' => match e with
    | .exit i => bif Nat.beq i id then k .norm st' else k (.exit i) st'
    | e => k e st'
  | .loop x, st, k => evK P G loop call x st fun e st' => match e with
    | .norm => loop (.loop x) (trunc st.mem.length st') k
    | e => k e st'
  | .exit id, st, k => k (.exit id) st
  | .ret, st, k => k .ret st
  | _, _, _ => none

/-- The results of a function. -/
def resOne (P : Program) (st : St) : ResultVar → Option U
  | .tmp t => match opnd st.tmps (.tmp t) with
    | .w u => some u
    | _ => none
  | .cell a t => match opnd st.tmps (.tmp a), kindOf P t with
    | .w (.one (.ptr b off)), some true => match st.mem[b]? with
      | some (.var cs) => bif Nat.ble (off + P.cellsOf t) cs.length then some (.agg ((cs.drop off).take (P.cellsOf t))) else none
      | _ => none
    | .w (.one (.ptr b off)), some false => match st.mem[b]? with
      | some (.var cs) => match cs[off]? with
        | some c => some (.one c)
        | none => none
      | _ => none
    | _, _ => none
def resAll (P : Program) (st : St) : List ResultVar → Option (List U)
  | [] => some []
  | r :: rs => match resOne P st r, resAll P st rs with
    | some u, some us => some (u :: us)
    | _, _ => none
def resV (P : Program) (fn : Func) (st : St) : Option V :=
  match resAll P st fn.results.toList with
  | some [u] => some (.w u)
  | some us => some (.tup us)
  | none => none

def startF (fn : Func) (us : List U) (mem : List B) : St := ⟨us.map .w ++ List.replicate (fn.ntmps - us.length) (.tup []), mem⟩

/-- A call that is gone into. -/
def callF (P : Program) (run : LoopF) : CallF := fun f us mem =>
  match P.funcs[f]? with
  | some fn => match fn.body with
    | some c => bif fn.name == "runtime.NumGoroutine" then none else
      match run c (startF fn us mem) with
      | some (.norm, st) | some (.ret, st) => match resV P fn st with
        | some v => some (v, shrink mem.length v st.mem)
        | none => none
      | _ => none
    | none => none
  | none => none

def callK (P : Program) {R : Type} (run : LoopK R) : CallK R := fun f us mem k =>
  match P.funcs[f]? with
  | some fn => match fn.body with
    | some c => bif fn.name == "runtime.NumGoroutine" then none else
      run c (startF fn us mem) fun e st => match e with
        | .exit _ => none
        | _ => match resV P fn st with
          | some v => k v (shrink mem.length v st.mem)
          | none => none
    | none => none
  | none => none

def run (P : Program) (G : Tab) : Nat → LoopF
  | 0 => fun _ _ => none
  | n + 1 => evC P G (run P G n) (callF P (run P G n))

def runK (P : Program) (G : Tab) {R : Type} : Nat → LoopK R
  | 0 => fun _ _ _ => none
  | n + 1 => evK P G (runK P G n) (callK P (runK P G n))

end Sh
end Go.Proofs.YtamdjlpobonmiaaDoor
