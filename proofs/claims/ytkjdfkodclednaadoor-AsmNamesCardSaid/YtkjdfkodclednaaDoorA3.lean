/- An abstract machine for one goroutine: regions whose order is open, code, functions; more fuel gives the same answer; what comes of all fuels. No condition. -/
import Derived.Test.YtkjdfkodclednaaDoorA2
namespace Go.Agm

abbrev Res := List Value × AHeap

def resL (P : Program) (fr : List AV) (h : AHeap) : List ResultVar → Option (List Value)
  | [] => some []
  | .tmp t :: r => match getF fr t with
    | .v x => (resL P fr h r).bind fun xs => some (x :: xs)
    | _ => none
  | .cell a t :: r => (locA P fr (.tmp a)).bind fun l => (l.cells fr h).bind fun cs => (readC P t cs l.off).bind fun x => (resL P fr h r).bind fun xs => some (x :: xs)

/-! A region whose order is open. -/

/-- 0: looks at values alone; 1: reads; 2: reads and acts; 3: a store. -/
def clsA (P : Program) (loc : Nat → Bool) (o : Oper) : Nat := match o.op with
  | .store _ _ _ => 3
  | .load _ _ => 1
  | .alloc _ | .box _ _ => match o.dst with
    | some d => bif loc d then 0 else 2
    | none => 2
  | .buildSlice _ len _ => match len with
    | 0 => 0
    | _ => 2
  | .move _ | .assign _ | .pick _ _ _ | .build _ _ | .nilCheck _ | .binOp _ _ _ _ _ | .unOp _ _ _ | .makeInterface _ _ | .makeFunc _ _ _ | .fieldAddr _ _ _ | .field _ _ _ | .indexAddr _ _ _ | .index _ _ _ | .typeAssert _ _ _ _ | .extract _ _ => 0
  | .convert src dst _ => match P.underlying src, P.underlying dst with
    | some (.slice _), _ => 2
    | _, some (.slice _) => 2
    | some .unsafePointer, _ => 2
    | _, some .unsafePointer => 2
    | _, _ => 0
  | .slice t _ _ _ _ => bif isArr P t then 2 else 0
  | .call c => match c.callee with
    | .builtin .len => 1
    | .builtin .min => 0
    | .builtin .max => 0
    | _ => 2
  | _ => 2

def looksA (ops : Array Oper) (o : Oper) : List Nat :=
  (o.op.operands.toList.filterMap fun
    | .tmp t => some t
    | _ => none) ++ (match o.guard with
    | some (j, _) => ((ops[j]?).bind (·.dst)).toList
    | none => [])

def namesA (ops : Array Oper) (o : Oper) : List Nat := o.dst.toList ++ looksA ops o

/-- Is i's effect on the slots ahead of what j names, or the other way round? -/
def touchA (ops : Array Oper) (i j : Oper) : Bool := match i.dst with
  | some d => (namesA ops j).contains d
  | none => false

def veq : Nat → Value → Value → Bool
  | _, .bool a, .bool b => a == b
  | _, .int k a, .int l b => k == l && a == b
  | _, .string a, .string b => a.data.toList == b.data.toList
  | _, .pointer a, .pointer b => a == b
  | _, .slice a n c, .slice b m d => a == b && n == m && c == d
  | _, .map a, .map b => a == b
  | _, .nilFunc, .nilFunc => true
  | _, .nilIface, .nilIface => true
  | n + 1, .agg a, .agg b => go n a.toList b.toList
  | n + 1, .iface t x, .iface u y => t == u && veq n x y
  | _, _, _ => false
where go (n : Nat) : List Value → List Value → Bool
  | [], [] => true
  | x :: xs, y :: ys => veq n x y && go n xs ys
  | _, _ => false

/-- What an operation that reads would read now. -/
def rereadA (P : Program) (o : Oper) (fr : List AV) (h : AHeap) : Option Value := match o.op with
  | .load t a => (locA P fr a).bind fun l => (l.cells fr h).bind fun cs => readC P t cs l.off
  | .call c => match c.args.toList, c.argTypes.toList with
    | [x], [t] => bif isArr P t then lenA P t .nilFunc else (valA P fr x).bind fun a => lenMapA P t a h
    | _, _ => none
  | _ => none

/-- Does an operation read a slot's own block? -/
def localA (P : Program) (o : Oper) (fr : List AV) : Bool := match o.op with
  | .load _ a => match locA P fr a with
    | some (.loc _ _) => true
    | _ => false
  | _ => false

def againA (P : Program) (o : Oper) (fr : List AV) (h : AHeap) : Bool := match o.dst with
  | some d => match getF fr d with
    | .tup [] => true
    | .v x => localA P o fr || (match rereadA P o fr h with
      | some y => veq 4 y x
      | none => false)
    | _ => false
  | none => false

def recheck (P : Program) (loc : Nat → Bool) (ops : Array Oper) (pre : Array Nat) (i : Nat) (fr : List AV) (h : AHeap) : List Nat → Bool
  | [] => true
  | j :: r => (match ops[j]? with
    | some o => !(clsA P loc o == 1) || (pre.getD i 0).testBit j || againA P o fr h
    | none => true) && recheck P loc ops pre i fr h r

def freshA (fr : List AV) (o : Oper) : Bool := match o.dst with
  | some d => noRefs d fr && (match getF fr d with
    | .blk _ => false
    | _ => true)
  | none => true

/-- An order: what reads, or looks at values, as early as may be. -/
def canonA (acts : List Bool) (pre : Array Nat) : Nat → List Nat → List Nat → List Nat
  | 0, _, _ => []
  | n + 1, left, done =>
    let mask := done.foldl (fun m i => m ||| 2 ^ i) 0
    let ready := left.filter fun i => (pre.getD i 0) &&& mask == pre.getD i 0
    match (ready.find? fun i => !acts.getD i true), ready with
    | some i, _ => i :: canonA acts pre n (left.filter (· != i)) (i :: done)
    | none, i :: _ => i :: canonA acts pre n (left.filter (· != i)) (i :: done)
    | none, [] => []

def orderOk (pre : Array Nat) : List Nat → Bool
  | [] => true
  | i :: r => r.all (fun j => !(pre.getD i 0).testBit j && !(i == j)) && orderOk pre r

/-- What must hold of a region for the order to be free. -/
def pairOk (st : Bool) (P : Program) (loc : Nat → Bool) (ops : Array Oper) (pre : Array Nat) (i j : Nat) : Bool := match ops[i]?, ops[j]? with
  | some a, some b => (pre.getD j 0).testBit i || ((pre.getD i 0).testBit j || (!touchA ops a b && !touchA ops b a && !(Nat.ble 2 (clsA P loc a) && Nat.ble 2 (clsA P loc b)) && (st || (!(clsA P loc a == 3) && !(clsA P loc b == 3)))))
  | _, _ => false

/-- What acts comes ahead of no reading that is not bound to it. -/
def earlyOk (P : Program) (loc : Nat → Bool) (ops : Array Oper) (pre : Array Nat) : List Nat → Bool
  | [] => true
  | i :: r => (match ops[i]? with
    | some a => Nat.blt (clsA P loc a) 2 || r.all fun j => (match ops[j]? with
      | some b => !(clsA P loc b == 1) || (pre.getD j 0).testBit i
      | none => false)
    | none => false) && earlyOk P loc ops pre r

/-- What an operation that reads names is written ahead of it alone; no slot is written twice; none looks at what it writes. -/
def keepOk (P : Program) (loc : Nat → Bool) (ops : Array Oper) (pre : Array Nat) (i j : Nat) : Bool := match ops[i]?, ops[j]? with
  | some a, some b => bif i == j then !(match a.dst with
      | some d => (looksA ops a).contains d
      | none => false)
    else ((!(clsA P loc a == 1) || !touchA ops b a || (pre.getD i 0).testBit j) && !(match a.dst, b.dst with
      | some d, some e => d == e
      | _, _ => false))
  | _, _ => false

def regionOkG (st : Bool) (P : Program) (loc : Nat → Bool) (ops : Array Oper) (pre : Array Nat) (order : List Nat) : Bool :=
  (List.range ops.size).all (fun i => match ops[i]? with
    | some o => o.after.toList.all fun e => !Region.binds .any e || Nat.blt e.on i
    | none => false)
  && (List.range ops.size).all (fun j => (List.range j).all fun i => pairOk st P loc ops pre i j)
  && (List.range ops.size).all (fun j => (List.range ops.size).all fun i => keepOk P loc ops pre i j)
  && order.length == ops.size && orderOk pre order && earlyOk P loc ops pre order && order.all (fun i => Nat.blt i ops.size)
def regionOk (P : Program) (loc : Nat → Bool) (ops : Array Oper) (pre : Array Nat) (order : List Nat) : Bool := regionOkG false P loc ops pre order

universe u
variable {A : Sort u}

/-- Operations in an order, with a look, behind each that acts, at what was read ahead of it without being bound to. -/
def opsC (P : Program) (loc : Nat → Bool) (M : Mach A) (ops : Array Oper) (pre : Array Nat) : List Nat → List Nat → List AV → (List AV → AHeap → A) → AHeap → A
  | _, [], fr, k, h => k fr h
  | done, i :: r, fr, k, h => match ops[i]? with
    | none => M.fail
    | some o => match o.guard with
      | none => stepK P loc M o fr (fun fr h => bif Nat.blt (clsA P loc o) 2 || recheck P loc ops pre i fr h done then opsC P loc M ops pre (i :: done) r fr k h else M.fail) h
      | some (j, want) => match (ops[j]?).bind (·.dst) with
        | none => M.fail
        | some t => match getF fr t with
          | .tup [] => opsC P loc M ops pre (i :: done) r (putF fr o.dst (.tup [])) k h
          | .v (.bool b) => match want with
            | true => cond b (stepK P loc M o (fr.set t (.v (.bool true))) (fun fr h => bif Nat.blt (clsA P loc o) 2 || recheck P loc ops pre i fr h done then opsC P loc M ops pre (i :: done) r fr k h else M.fail) h)
              (opsC P loc M ops pre (i :: done) r (putF (fr.set t (.v (.bool false))) o.dst (.tup [])) k h)
            | false => cond b (opsC P loc M ops pre (i :: done) r (putF (fr.set t (.v (.bool true))) o.dst (.tup [])) k h)
              (stepK P loc M o (fr.set t (.v (.bool false))) (fun fr h => bif Nat.blt (clsA P loc o) 2 || recheck P loc ops pre i fr h done then opsC P loc M ops pre (i :: done) r fr k h else M.fail) h)
          | _ => M.fail

def orderA (P : Program) (loc : Nat → Bool) (ops : Array Oper) : List Nat :=
  canonA (ops.toList.map fun o => Nat.ble 2 (clsA P loc o)) (Region.before ops) ops.size (List.range ops.size) []

/-- The orders of what acts. -/
def linA (pre : Array Nat) : Nat → List Nat → List (List Nat)
  | 0, _ => [[]]
  | n + 1, rem => match rem with
    | [] => [[]]
    | x :: r => (x :: r).flatMap fun y => bif (x :: r).all (fun z => !(pre.getD y 0).testBit z) then (linA pre n ((x :: r).filter fun z => !(Nat.beq z y))).map (y :: ·) else []
/-- What acts ahead of another one in an order. -/
def preDir (pre : Array Nat) : List Nat → Array Nat
  | [] => pre
  | x :: r => match r with
    | [] => pre
    | y :: _ => preDir (pre.setIfInBounds y (pre.getD y 0 ||| 2 ^ x)) r
def closeP (pre : Array Nat) (order : List Nat) : Array Nat :=
  order.foldl (fun acc i => acc.setIfInBounds i (order.foldl (fun s q => bif (acc.getD i 0).testBit q then s ||| acc.getD q 0 else s) (acc.getD i 0))) pre
def predS : List Nat → Nat → Option Nat
  | [], _ => none
  | x :: r, i => match r with
    | [] => none
    | y :: _ => bif Nat.beq y i then some x else predS r i
def closedOk (ops : Array Oper) (q : Array Nat) (σ : List Nat) : Bool :=
  (List.range ops.size).all fun i => (List.range ops.size).all fun j => !(q.getD i 0).testBit j || ((match ops[i]? with
    | some o => o.after.toList.any fun e => Region.binds .any e && (Nat.beq e.on j || (q.getD e.on 0).testBit j)
    | none => false) || (match predS σ i with
    | some a => Nat.beq a j || (q.getD a 0).testBit j
    | none => false))
def actsA (P : Program) (loc : Nat → Bool) (ops : Array Oper) : List Nat := (List.range ops.size).filter fun i => match ops[i]? with
  | some o => Nat.ble 2 (clsA P loc o)
  | none => false
def orderS (P : Program) (loc : Nat → Bool) (ops : Array Oper) (σ : List Nat) : List Nat :=
  canonA (ops.toList.map fun o => Nat.ble 2 (clsA P loc o)) (preDir (Region.before ops) σ) ops.size (List.range ops.size) []
def preS (P : Program) (loc : Nat → Bool) (ops : Array Oper) (σ : List Nat) : Array Nat := closeP (preDir (Region.before ops) σ) (orderS P loc ops σ)
def memOk (P : Program) (loc : Nat → Bool) (ops : Array Oper) (σ : List Nat) : Bool :=
  regionOkG true P loc ops (preS P loc ops σ) (orderS P loc ops σ) && closedOk ops (preS P loc ops σ) σ

/-- No block of its own comes of an operation that makes none. -/
def nlA (loc : Nat → Bool) (o : Oper) : Bool := match o.op with
  | .alloc _ | .box _ _ => match o.dst with
    | some d => !loc d
    | none => true
  | _ => true
def noBB (fr : List AV) : Bool := fr.all fun x => match x with
  | .blk _ => false
  | _ => true

/-- Where there is one order of what acts alone, and no slot owns a block. -/
def soleOrd (P : Program) (loc : Nat → Bool) (ops : Array Oper) (fr : List AV) : Option (List Nat) :=
  bif noBB fr && ops.toList.all (nlA loc) && ops.toList.all (freshA fr) then match linA (Region.before ops) ops.size (actsA P loc ops) with
    | [σ] => bif memOk P loc ops σ then some σ else none
    | _ => none
  else none

def drawK (P : Program) (loc : Nat → Bool) (M : Mach A) (ops : Array Oper) (fr : List AV) (k : List AV → AHeap → A) (h : AHeap) : A :=
  bif regionOk P loc ops (Region.before ops) (orderA P loc ops) && ops.toList.all (freshA fr) then opsC P loc M ops (Region.before ops) [] (orderA P loc ops) fr k h
  else match soleOrd P loc ops fr with
    | some σ => opsC P loc M ops (preS P loc ops σ) [] (orderS P loc ops σ) fr k h
    | none => M.fail

/-! Code. -/

/-- Frames: what is struck tells nothing. -/
def maskF : List Bool → List AV → List AV
  | true :: m, x :: r => x :: maskF m r
  | false :: m, _ :: r => .dead :: maskF m r
  | [], r => r
  | _, [] => []

/-- Of a function: which slots are blocks of their own; which slots are struck ahead of which region. -/
structure FT where
  loc : Nat → Bool
  mask : Nat → List Bool

def goStep (P : Program) (F : FT) (M : Mach A) (fn : Func) (todo : List Item) (fr : List AV) (k : List Item → List AV → AHeap → A) (h : AHeap) : A :=
  match todo with
  | [] => M.on (resL P fr h fn.results.toList) fun rs => M.ret rs h
  | .code c :: t => match c with
    | .skip => k t fr h
    | .label _ => k t fr h
    | .seq x y => k (.code x :: .code y :: t) fr h
    | .region id ops draw => bif draw then drawK P F.loc M ops (maskF (F.mask id) fr) (fun fr h => k t fr h) h else opsK P F.loc M ops (List.range ops.size) (maskF (F.mask id) fr) (fun fr h => k t fr h) h
    | .cond c x y => match opA P fr c with
      | .v (.bool b) => match c with
        | .tmp s => cond b (k (.code x :: t) (fr.set s (.v (.bool true))) h) (k (.code y :: t) (fr.set s (.v (.bool false))) h)
        | _ => cond b (k (.code x :: t) fr h) (k (.code y :: t) fr h)
      | _ => M.fail
    | .block id x => k (.code x :: .inBlock id :: t) fr h
    | .loop x => k (.code x :: .inLoop x :: t) fr h
    | .exit id => match exitTo id t with
      | some t' => k t' fr h
      | none => M.fail
    | .ret => M.on (resL P fr h fn.results.toList) fun rs => M.ret rs h
    | _ => M.fail
  | .inBlock _ :: t => k t fr h
  | .inLoop x :: t => k (.code x :: .inLoop x :: t) fr h
  | _ => M.fail

/-- The answer of a run: what it returns, and the heap. -/
def optM (c : Calls1) : Mach (Option Res) := { fail := none, ret := fun rs h => some (rs, h), call := fun g xs h k => (c g xs h).bind fun p => k p.1 p.2 }

def goK (P : Program) (F : FT) (c : Calls1) (fn : Func) : Nat → List Item → List AV → AHeap → Option Res
  | 0, _, _, _ => none
  | n + 1, todo, fr, h => goStep P F (optM c) fn todo fr (fun t fr h => goK P F c fn n t fr h) h

def startF (fn : Func) (args : List Value) : List AV := args.map .v ++ List.replicate (fn.ntmps - args.length) .dead

/-- What functions are known by a contract: values alone, no heap. -/
abbrev Prims := FuncId → Option (List Value → Option (List Value))

structure Tbl where
  ft : FuncId → FT
  prim : Prims

def runK (P : Program) (T : Tbl) : Nat → Calls1
  | 0, _, _, _ => none
  | n + 1, f, args, h => match T.prim f with
    | some g => (g args).bind fun rs => some (rs, h)
    | none => match P.funcs[f]? with
      | some fn => match fn.body with
        | some c => goK P (T.ft f) (runK P T n) fn (n + 1) [.code c] (startF fn args) h
        | none => none
      | none => none

/-- A stretch of code up to the regions of a list. -/
def segK (P : Program) (F : FT) (M : Mach A) (fn : Func) (cuts : List Nat) : Nat → List Item → List AV → (List Item → List AV → AHeap → A) → AHeap → A
  | 0, t, fr, leaf, h => leaf t fr h
  | n + 1, t, fr, leaf, h => goStep P F M fn t fr (fun t fr h => match t with
      | .code (.region id ops d) :: t => bif cuts.contains id then leaf (.code (.region id ops d) :: t) (maskF (F.mask id) fr) h else segK P F M fn cuts n (.code (.region id ops d) :: t) fr leaf h
      | t => segK P F M fn cuts n t fr leaf h) h

end Go.Agm
