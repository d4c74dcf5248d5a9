/- An abstract machine for one goroutine: its steps. No condition. -/
import Derived.Test.YtkjdfkodclednaaDoorA1
namespace Go.Agm

abbrev Calls1 := FuncId → List Value → AHeap → Option (List Value × AHeap)

def outA : List Value → AV
  | [x] => .v x
  | xs => .tup xs

def Loc.addA (l : Loc) (n : Nat) : AV := match l with
  | .main b o => .v (.pointer (some ⟨b, o + n, none⟩))
  | .loc s o => .ref s (o + n)

/-- The cells that an append, a copy puts. -/
def sourceA (h : AHeap) (size : Nat) : Value → Option (List Value)
  | .slice none 0 0 => some []
  | .slice (some ⟨_, _, none⟩) 0 _ => some []
  | .slice (some ⟨b, off, none⟩) n _ => match h.get b with
    | some (.cells cs _) => bif Nat.ble (off + n * size) cs.length then some ((cs.drop off).take (n * size)) else none
    | _ => none
  | .string s => bif size == 1 then some (s.data.toList.map fun b => .int .u8 b.toNat) else none
  | _ => none
def countA : Value → Option Nat
  | .slice _ n _ => some n
  | .string s => some s.size
  | _ => none

def room (n bytes : Nat) : Bool := Nat.ble (n * bytes) 1099511627776

def zeroOk (P : Program) (t : TypeId) (size : Nat) : Bool := match (P.info? t).bind (·.zero) with
  | some z => z.cells.size == size
  | none => false

/-- May an append take it? -/
def srcD : TypeDesc → Bool
  | .slice _ => true
  | .string => true
  | _ => false

/-- 'append': what comes, and the heap. -/
def appendA (P : Program) (t xt : TypeId) (s x : Value) (h : AHeap) : Option (Value × AHeap) :=
  match P.underlying t, P.underlying xt with
  | some (.slice e), some xd =>
    bif !srcD xd then none else
    (sizeT P e).bind fun size => (bytesT P e).bind fun bytes => (countA x).bind fun m =>
    match m with
    | 0 => (match s with | .slice _ _ _ => some (s, h) | _ => none)
    | m + 1 =>
      bif !(Nat.blt 0 bytes && zeroOk P e size) then none else
      (sourceA h size x).bind fun new =>
      match size with
      | 0 => none
      | size + 1 => match s with
        | .slice none 0 0 => bif room (m + 1) bytes then some (.slice (some ⟨h.next, 0, none⟩) (m + 1) (size + 1), (h.new (.cells new true)).typ h.next e) else none
        | .slice (some ⟨_, _, none⟩) 0 0 => bif room (m + 1) bytes then some (.slice (some ⟨h.next, 0, none⟩) (m + 1) (size + 1), (h.new (.cells new true)).typ h.next e) else none
        | .slice (some ⟨b, off, none⟩) n sz => match h.get b with
          | some (.cells cs true) =>
            bif room (n + (m + 1)) bytes && sz == size + 1 && Nat.ble (off + n * (size + 1)) cs.length then
              some (.slice (some ⟨h.next, 0, none⟩) (n + (m + 1)) (size + 1), AHeap.typIf (Nat.beq off 0 && h.tyOf b e) ((h.del b).new (.cells ((cs.drop off).take (n * (size + 1)) ++ new) true)) h.next e)
            else none
          | _ => none
        | _ => none
  | _, _ => none

/-- 'copy': how many, and the heap. -/
def copyA (P : Program) (t : TypeId) (d x : Value) (h : AHeap) : Option (Value × AHeap) :=
  match P.underlying t, d with
  | some (.slice e), .slice none 0 0 => (sizeT P e).bind fun _ => (countA x).bind fun _ => some (.int .i64 0, h)
  | some (.slice e), .slice (some ⟨b, off, none⟩) n _ => (sizeT P e).bind fun size => (countA x).bind fun m =>
    (sourceA h size x).bind fun new => match h.get b with
      | some (.cells cs true) => bif Nat.ble (off + n * size) cs.length && Nat.ble (Nat.min m n * size) new.length then
          some (.int .i64 (Nat.min m n), h.put b (.cells (splice cs off (new.take (Nat.min m n * size))) true)) else none
      | _ => none
  | _, _ => none

/-- 'clear' of a slice. -/
def clearA (P : Program) (t : TypeId) (d : Value) (h : AHeap) : Option AHeap :=
  match P.underlying t, d with
  | some (.slice _), .slice none 0 0 => some h
  | some (.slice _), .slice _ 0 _ => some h
  | some (.slice e), .slice (some ⟨b, off, none⟩) n _ => (zeroT P e).bind fun z => match h.get b with
      | some (.cells cs true) => bif Nat.ble (off + n * z.length) cs.length then some (h.put b (.cells (splice cs off (List.replicate n z).flatten) true)) else none
      | _ => none
  | _, _ => none

def sameKey : TypeDesc → Value → Value → Option Bool
  | .int _, .int k a, .int k' b => bif k == k' then some (a == b) else none
  | .string, .string a, .string b => some (a == b)
  | _, _, _ => none
def findA (d : TypeDesc) (k : Value) : List (Value × Value) → Nat → Option (Option (Nat × Value))
  | [], _ => some none
  | e :: es, i => match sameKey d k e.1 with
    | some true => some (some (i, e.2))
    | some false => findA d k es (i + 1)
    | none => none
def keyKind : TypeDesc → Bool
  | .int _ => true
  | .string => true
  | _ => false
def entriesA (h : AHeap) : Value → Option (List (Value × Value))
  | .map none => some []
  | .map (some b) => match h.get b with
    | some (.map es) => some es
    | _ => none
  | _ => none
def keyOk : TypeDesc → Value → Bool
  | .int _, .int _ _ => true
  | .string, .string _ => true
  | _, _ => false

/-- 'm[k]': what is found, and whether. -/
def lookupA (P : Program) (t : TypeId) (m k : Value) (h : AHeap) : Option (Value × Bool) :=
  match P.underlying t with
  | some (.map kt et) => match P.underlying kt with
    | some d => bif keyOk d k then (entriesA h m).bind fun es => (findA d k es 0).bind fun
        | some (_, v) => some (v, true)
        | none => match (P.info? et).bind (·.zero) with
          | some z => bif plainD 3 z then some (z, false) else none
          | none => none
      else none
    | none => none
  | _ => none

def updateA (P : Program) (t : TypeId) (m k x : Value) (h : AHeap) : Option AHeap :=
  match P.underlying t, m with
  | some (.map kt _), .map (some b) => match P.underlying kt, h.get b with
    | some d, some (.map es) => bif keyOk d k then (findA d k es 0).bind fun
        | some (i, _) => some (h.put b (.map (es.set i (k, x))))
        | none => some (h.put b (.map (es ++ [(k, x)])))
      else none
    | _, _ => none
  | _, _ => none

def deleteA (P : Program) (t : TypeId) (m k : Value) (h : AHeap) : Option AHeap :=
  match P.underlying t, m with
  | some (.map kt _), .map none => match P.underlying kt with
    | some d => bif keyOk d k then some h else none
    | none => none
  | some (.map kt _), .map (some b) => match P.underlying kt, h.get b with
    | some d, some (.map es) => bif keyOk d k then (findA d k es 0).bind fun
        | some (i, _) => some (h.put b (.map (es.eraseIdx i)))
        | none => some h
      else none
    | _, _ => none
  | _, _ => none

def isKeyD (d : TypeDesc) (v : Value) : Bool := match d, v with
  | .int kd, .int k _ => k == kd
  | .string, .string _ => true
  | _, _ => false
def keyEq (a b : Value) : Bool := match a, b with
  | .int _ x, .int _ y => x == y
  | .string x, .string y => x == y
  | _, _ => false
/-- What a map has under a key. -/
def getK (k : Value) : List (Value × Value) → Option Value
  | [] => none
  | e :: r => bif keyEq k e.1 then some e.2 else getK k r
def lkA (ok : Bool) (v : Value) (b : Bool) : AV := bif ok then .tup [v, .bool b] else .v v
/-- The entries of a map behind a store, behind a 'delete'. -/
def upsert (k x : Value) : List (Value × Value) → List (Value × Value)
  | [] => [(k, x)]
  | e :: r => bif keyEq k e.1 then (k, x) :: r else e :: upsert k x r
def eraseK (k : Value) : List (Value × Value) → List (Value × Value)
  | [] => []
  | e :: r => bif keyEq k e.1 then r else e :: eraseK k r
/-- A map whose keys are numbers or texts, and a key. -/
def keyMap (P : Program) (t : TypeId) (m k : Value) (h : AHeap) : Option (Nat × TypeDesc × List (Value × Value)) := match P.underlying t, m with
  | some (.map kt _), .map (some b) => match P.underlying kt, h.get b with
    | some d, some (.map es) => bif isKeyD d k then some (b, d, es) else none
    | _, _ => none
  | _, _ => none
/-- What stands for an entry that there isn't. -/
def zeroM (P : Program) (t : TypeId) : Option Value := match P.underlying t with
  | some (.map _ et) => match (P.info? et).bind (·.zero) with
    | some z => bif plainD 3 z then some z else none
    | none => none
  | _ => none

def lenMapA (P : Program) (t : TypeId) (x : Value) (h : AHeap) : Option Value := match P.underlying t, x with
  | some (.map _ _), .map (some b) => match h.get b with
    | some (.map es) => some (.int .i64 es.length)
    | _ => none
  | _, _ => lenA P t x

def bytesOfCells : List Value → Option (List UInt8)
  | [] => some []
  | .int .u8 n :: r => (bytesOfCells r).bind fun bs => some (UInt8.ofNat n.toNat :: bs)
  | _ :: _ => none

/-- The slice of a slice. -/
def subA (P : Program) (t : TypeId) (x : Value) (lo hi : Option Value) : Option Value :=
  match P.underlying t, x with
  | some .string, .string s => (boundsA s.size lo hi).bind fun p => some (.string (s.extract p.1 p.2))
  | some (.slice e), .slice none 0 0 => (sizeT P e).bind fun _ => (boundsA 0 lo hi).bind fun _ => some (.slice none 0 0)
  | some (.slice e), .slice (some ⟨b, off, none⟩) n sz => (sizeT P e).bind fun size => (boundsA n lo hi).bind fun p => bif sz == size || n == 0 then some (.slice (some ⟨b, off + p.1 * size, none⟩) (p.2 - p.1) sz) else none
  | _, _ => none

/-- The slice of an array in a block. -/
def subArr (P : Program) (t : TypeId) (b off : Nat) (lo hi : Option Value) (h : AHeap) : Option Value :=
  match P.underlying t with
  | some (.array n e) => (sizeT P e).bind fun size => (boundsA n lo hi).bind fun p => match h.get b with
    | some (.cells cs _) => bif Nat.ble (off + n * size) cs.length && Nat.blt 0 size then some (.slice (some ⟨b, off + p.1 * size, none⟩) (p.2 - p.1) size) else none
    | _ => none
  | _ => none

def isArr (P : Program) (t : TypeId) : Bool := match P.underlying t with
  | some (.array _ _) => true
  | _ => false

/-- The place of an element. -/
def elemOff (P : Program) (t : TypeId) (i : Value) : Option Nat := match P.underlying t, i with
  | some (.array n e), .int _ i => (sizeT P e).bind fun size => bif decide (0 ≤ i) && decide (i < n) then some (i.toNat * size) else none
  | _, _ => none
def elemAddr (P : Program) (t : TypeId) (x i : Value) : Option Value := match P.underlying t, x, i with
  | some (.slice e), .slice (some ⟨b, off, none⟩) n _, .int _ i => (sizeT P e).bind fun size => bif decide (0 ≤ i) && decide (i < n) then some (.pointer (some ⟨b, off + i.toNat * size, none⟩)) else none
  | _, _, _ => none

def assertA (P : Program) (asserted : TypeId) (x : Value) : Option (Value × Bool) := match P.underlying asserted with
  | some (.interface _) => none
  | some _ => match x with
    | .nilIface => match (P.info? asserted).bind (·.zero) with
      | some z => bif plainD 3 z then some (z, false) else none
      | none => none
    | .iface t v => bif t == asserted then some (v, true) else match (P.info? asserted).bind (·.zero) with
      | some z => bif plainD 3 z then some (z, false) else none
      | none => none
    | _ => none
  | none => none

universe u
/-- What a run ends in: an answer of whatever kind. -/
structure Mach (A : Sort u) where
  fail : A
  ret : List Value → AHeap → A
  call : FuncId → List Value → AHeap → (List Value → AHeap → A) → A

/-- Bytes of cells. -/
def bytesOf : List Value → Option (List UInt8)
  | [] => some []
  | .int k n :: r => match k with
    | .u8 => (bytesOf r).map (UInt8.ofNat n.toNat :: ·)
    | _ => none
  | _ => none
def strV (l : List UInt8) : Value := .string ⟨l.toArray⟩
def ptrT (P : Program) (t : TypeId) : Bool := match P.underlying t with
  | some (.pointer e) => (P.info? e).isSome
  | _ => false
/-- Texts that are put together; a pointer held against itself. -/
def bin2 (P : Program) (op : BinOp) (t : TypeId) (x y : Value) : Option Value := match op, x, y with
  | .add, .string a, .string b => bif Nat.ble (a.size + b.size) 1099511627776 then some (strV (a.data.toList ++ b.data.toList)) else none
  | .eql, .pointer (some ⟨b, o, none⟩), .pointer (some ⟨c, p, none⟩) => bif Nat.beq b c && Nat.beq o p && ptrT P t then some (.bool true) else none
  | .neq, .pointer (some ⟨b, o, none⟩), .pointer (some ⟨c, p, none⟩) => bif Nat.beq b c && Nat.beq o p && ptrT P t then some (.bool false) else none
  | _, _, _ => none

/-- What comes of a value that there may be. -/
def Mach.on {A : Sort u} (M : Mach A) {α : Type} (x : Option α) (f : α → A) : A := match x with
  | some a => f a
  | none => M.fail

variable {A : Sort u}

/-- A text of bytes. -/
def bytesStr (e : TypeId) (P : Program) (a : Value) (h : AHeap) : Option Value := match P.underlying e, a with
  | some (.int .u8), .slice none 0 0 => some (strV [])
  | some (.int .u8), .slice (some ⟨b, off, none⟩) n sz => match n with
    | 0 => some (strV [])
    | n + 1 => match h.get b with
      | some (.cells cs _) => bif Nat.beq sz 1 && Nat.ble (off + (n + 1)) cs.length then (bytesOf ((cs.drop off).take (n + 1))).map strV else none
      | _ => none
  | _, _ => none
/-- A pointer made an unsafe one. -/
def toUns (P : Program) (t : TypeId) (a : Value) (h : AHeap) : Option Value := match a with
  | .pointer none => some a
  | .pointer (some ⟨b, off, none⟩) => match sizeT P t, h.get b with
    | some (_ + 1), some (.cells cs _) => bif Nat.blt off cs.length then some a else none
    | _, _ => none
  | _ => none
/-- .. and back. -/
def ofUns (P : Program) (u : TypeId) (a : Value) (h : AHeap) : Option Value := match a with
  | .pointer none => some a
  | .pointer (some ⟨b, 0, none⟩) => match h.get b with
    | some (.cells cs _) => bif h.tyOf b u && Nat.blt 0 (P.cellsOf u) && Nat.ble (P.cellsOf u) cs.length && (P.info? u).isSome then some a else none
    | _ => none
  | _ => none
/-- A conversion that looks at memory, or any other one. -/
def convH (P : Program) (src dst : TypeId) (a : Value) (h : AHeap) : Option Value := match P.underlying src, P.underlying dst with
  | some (.slice e), some .string => bytesStr e P a h
  | some (.pointer t), some .unsafePointer => toUns P t a h
  | some .unsafePointer, some (.pointer u) => ofUns P u a h
  | _, _ => convA P src dst a
def sliceDataA (a : Value) : Option Value := match a with
  | .slice none 0 0 => some (.pointer none)
  | .slice (some ⟨b, off, none⟩) n _ => match n with
    | 0 => none
    | _ + 1 => some (.pointer (some ⟨b, off, none⟩))
  | _ => none
/-- A text over bytes, which are not to turn any more. -/
def unsStr (P : Program) (pt : TypeId) (a n : Value) (h : AHeap) : Option (Value × AHeap) := match a, n with
  | .pointer none, .int .i64 n => bif n == 0 then some (strV [], h) else none
  | .pointer (some ⟨b, 0, none⟩), .int .i64 n => match P.underlying pt, h.get b with
    | some (.pointer e), some (.cells cs true) => bif decide (0 < n) && decide (n ≤ 1099511627776) && Nat.ble n.toNat cs.length && h.tyOf b e && Nat.beq (P.cellsOf e) 1 then
        (bytesOf (cs.take n.toNat)).map fun l => (strV l, h.del b) else none
    | _, _ => none
  | _, _ => none

/-- A function of the library that hands back what it is given. -/
def idExt (P : Program) (g : FuncId) : Bool := match P.funcs[g]? with
  | some fn => fn.name == "internal/abi.NoEscape" && fn.origin == "" && fn.body.isNone
  | none => false
def sole : List Value → Option Value
  | [x] => some x
  | _ => none

/-- One operation, but a store: what it puts, and the heap. -/
def opK (P : Program) (loc : Nat → Bool) (M : Mach A) (o : Oper) (fr : List AV) (k : AV → AHeap → A) (h : AHeap) : A :=
  match o.op with
  | .move x | .assign x => match opA P fr x with
    | .v y => k (.v y) h
    | .tup ys => k (.tup ys) h
    | .blk _ => match x with
      | .tmp t => k (.ref t 0) h
      | _ => M.fail
    | .ref s off => k (.ref s off) h
    | .dead => M.fail
  | .nilCheck x => match opA P fr x with
    | .v (.pointer none) => M.fail
    | .v .nilIface => M.fail
    | .v .nilFunc => M.fail
    | .v (.func (.method _) _ _) => M.fail
    | .v (.chan _) => M.fail
    | .v y => k (.v y) h
    | .blk _ => match x with
      | .tmp t => k (.ref t 0) h
      | _ => M.fail
    | .ref s off => match getF fr s with
      | .blk _ => k (.ref s off) h
      | _ => M.fail
    | _ => M.fail
  | .pick c a b => match valA P fr c with
    | some (.bool c) => match valA P fr a, valA P fr b with
      | some x, some y => k (.v (bif c then x else y)) h
      | some x, none => bif c then k (.v x) h else M.fail
      | none, some y => bif c then M.fail else k (.v y) h
      | none, none => M.fail
    | _ => M.fail
  | .alloc e => match zeroT P e, o.dst with
    | some cs, some d => bif loc d then (bif noRefs d fr then k (.blk cs) h else M.fail) else k (.v (.pointer (some ⟨h.next, 0, none⟩))) ((h.new (.cells cs true)).typ h.next e)
    | _, _ => M.fail
  | .box _ x => match valA P fr x, o.dst with
    | some y, some d => bif loc d then (bif noRefs d fr then k (.blk y.cells.toList) h else M.fail) else k (.v (.pointer (some ⟨h.next, 0, none⟩))) (h.new (.cells y.cells.toList true))
    | _, _ => M.fail
  | .build t parts => M.on (valsA P fr (parts.toList.map (·.2))) fun xs => M.on (buildA P t ((parts.toList.map (·.1)).zip xs)) fun y => k (.v y) h
  | .buildSlice t len parts => match P.underlying t with
    | some (.slice e) => match sizeT P e, zeroT P e with
      | some size, some z => bif size == z.length && Nat.blt 0 size && Nat.ble (len * size) 16777216 then match len with
          | 0 => match parts.toList with
            | [] => k (.v (.slice (some ⟨0, 0, none⟩) 0 0)) h
            | _ => M.fail
          | len + 1 => M.on (valsA P fr (parts.toList.map (·.2))) fun xs =>
            M.on (fillA (fun i => some (i * size, size)) (List.replicate (len + 1) z).flatten ((parts.toList.map (·.1)).zip xs)) fun cs =>
            k (.v (.slice (some ⟨h.next, 0, none⟩) (len + 1) size)) (h.new (.cells cs true))
        else M.fail
      | _, _ => M.fail
    | _ => M.fail
  | .load t a => M.on (locA P fr a) fun l => M.on (l.cells fr h) fun cs => M.on (readC P t cs l.off) fun x => k (.v x) h
  | .binOp op t x y _ => M.on (valA P fr x) fun a => M.on (valA P fr y) fun b => match divA op a b with
    | some p => bif p.1 then M.fail else k (.v p.2) h
    | none => match bin2 P op t a b with
      | some z => k (.v z) h
      | none => M.on (binA P op t x y a b) fun c => k (.v c) h
  | .unOp op _ x => M.on (valA P fr x) fun a => M.on (unA P op a) fun c => k (.v c) h
  | .convert src dst x => M.on (valA P fr x) fun a => M.on (convH P src dst a h) fun c => k (.v c) h
  | .makeInterface t x => M.on (valA P fr x) fun a => match P.underlying t with
    | some (.interface _) => M.fail
    | some _ => k (.v (.iface t a)) h
    | none => M.fail
  | .makeFunc fn first captured => M.on (valsA P fr first.toList) fun xs => M.on (valsA P fr captured.toList) fun ys => k (.v (.func fn xs.toArray ys.toArray)) h
  | .makeMap _ r => match r with
    | none => k (.v (.map (some h.next))) (h.new (.map []))
    | some _ => M.fail
  | .mapUpdate t m kk x => M.on (valA P fr m) fun a => M.on (valA P fr kk) fun b => M.on (valA P fr x) fun y => M.on (keyMap P t a b h) fun p =>
      bif p.2.2.all fun e => isKeyD p.2.1 e.1 then k (.tup []) (h.put p.1 (.map (upsert b y p.2.2))) else M.fail
  | .lookup t m kk ok => M.on (valA P fr m) fun a => M.on (valA P fr kk) fun b => M.on (keyMap P t a b h) fun p => M.on (zeroM P t) fun z =>
      bif p.2.2.all fun e => isKeyD p.2.1 e.1 then (match getK b p.2.2 with
        | some v => k (lkA ok v true) h
        | none => k (lkA ok z false) h) else M.fail
  | .makeSlice t l c => M.on (valA P fr l) fun x => M.on (valA P fr c) fun y => match P.underlying t, x, y with
    | some (.slice e), .int _ l, .int _ c => match bytesT P e, sizeT P e, zeroT P e with
      | some bytes, some size, some z => bif decide (0 ≤ l) && decide (l ≤ c) && decide (c ≤ 1099511627776) && room c.toNat bytes && size == z.length && Nat.blt 0 size then
          k (.v (.slice (some ⟨h.next, 0, none⟩) l.toNat size)) (h.new (.cells (List.replicate c.toNat z).flatten true)) else M.fail
      | _, _, _ => M.fail
    | _, _, _ => M.fail
  | .slice t x lo hi mx => match mx with
    | some _ => M.fail
    | none => M.on (valsA P fr lo.toList) fun l => M.on (valsA P fr hi.toList) fun u =>
      bif isArr P t then match locA P fr x with
        | some (.main b off) => M.on (subArr P t b off l.head? u.head? h) fun y => k (.v y) h
        | _ => M.fail
      else M.on (valA P fr x) fun a => M.on (subA P t a l.head? u.head?) fun y => k (.v y) h
  | .fieldAddr s x f => M.on (locA P fr x) fun l => M.on (fieldOff P s f) fun p => k (l.addA p.1) h
  | .field t x f => M.on (valA P fr x) fun a => M.on (fieldA P t a f) fun y => k (.v y) h
  | .indexAddr t x i => M.on (valA P fr i) fun j => bif isArr P t then M.on (locA P fr x) fun l => M.on (elemOff P t j) fun n => k (l.addA n) h
      else M.on (valA P fr x) fun a => M.on (elemAddr P t a j) fun y => k (.v y) h
  | .index t x i => M.on (valA P fr x) fun a => M.on (valA P fr i) fun j => M.on (indexA P t a j) fun y => k (.v y) h
  | .extract x i => match opA P fr x with
    | .tup xs => M.on (xs[i]?) fun y => k (.v y) h
    | _ => M.fail
  | .call c => match c.callee with
    | .value f => match valA P fr f with
      | some (.func (.func g) first captured) => bif enters P g then M.on (valsA P fr c.args.toList) fun xs => M.call g (first.toList ++ xs ++ captured.toList) h fun rs h => k (outA rs) h else bif idExt P g then M.on (valsA P fr c.args.toList) fun xs => M.on (sole (first.toList ++ xs ++ captured.toList)) fun x => k (.v x) h else M.fail
      | _ => M.fail
    | .invoke r name => match valA P fr r with
      | some (.iface t x) => match methodA P t name with
        | some g => bif enters P g then M.on (valsA P fr c.args.toList) fun xs => M.call g (x :: xs) h fun rs h => k (outA rs) h else M.fail
        | none => M.fail
      | _ => M.fail
    | .builtin b => match b, c.args.toList, c.argTypes.toList with
      | .len, [x], [t] => bif isArr P t then M.on (lenA P t .nilFunc) fun y => k (.v y) h else M.on (valA P fr x) fun a => M.on (lenMapA P t a h) fun y => k (.v y) h
      | .append, [x, y], [t, u] => M.on (valA P fr x) fun a => M.on (valA P fr y) fun b => M.on (appendA P t u a b h) fun p => k (.v p.1) p.2
      | .copy, [x, y], [t, _] => M.on (valA P fr x) fun a => M.on (valA P fr y) fun b => M.on (copyA P t a b h) fun p => k (.v p.1) p.2
      | .delete, [x, y], [t, _] => M.on (valA P fr x) fun a => M.on (valA P fr y) fun b => M.on (keyMap P t a b h) fun p =>
          bif p.2.2.all fun e => isKeyD p.2.1 e.1 then k (.tup []) (h.put p.1 (.map (eraseK b p.2.2))) else M.fail
      | .clear, [x], [t] => M.on (valA P fr x) fun a => M.on (clearA P t a h) fun h' => k (.tup []) h'
      | .unsafeSliceData, [x], _ => M.on (valA P fr x) fun a => M.on (sliceDataA a) fun y => k (.v y) h
      | .unsafeString, [x, y], [t, _] => M.on (valA P fr x) fun a => M.on (valA P fr y) fun b => M.on (unsStr P t a b h) fun p => k (.v p.1) p.2
      | .max, x :: r, _ => M.on (valA P fr x) fun a => M.on (valsA P fr r) fun xs => M.on (mmA P true a xs) fun y => k (.v y) h
      | .min, x :: r, _ => M.on (valA P fr x) fun a => M.on (valsA P fr r) fun xs => M.on (mmA P false a xs) fun y => k (.v y) h
      | _, _, _ => M.fail
  | _ => M.fail

/-- A store: the frame and the heap. -/
def storeK (P : Program) (M : Mach A) (t : TypeId) (a x : Operand) (fr : List AV) (k : List AV → AHeap → A) (h : AHeap) : A :=
  M.on (valA P fr x) fun y => match sizeT P t, locA P fr a with
    | some size, some (.main b off) => match h.get b with
      | some (.cells cs true) => bif y.cells.size == size && Nat.ble (off + size) cs.length then k fr (h.put b (.cells (splice cs off y.cells.toList) true)) else M.fail
      | _ => M.fail
    | some size, some (.loc s off) => match getF fr s with
      | .blk cs => bif y.cells.size == size && Nat.ble (off + size) cs.length then k (fr.set s (.blk (splice cs off y.cells.toList))) h else M.fail
      | _ => M.fail
    | _, _ => M.fail

/-- One operation. -/
def stepK (P : Program) (loc : Nat → Bool) (M : Mach A) (o : Oper) (fr : List AV) (k : List AV → AHeap → A) (h : AHeap) : A :=
  match o.op with
  | .store t a x => match o.dst with
    | none => storeK P M t a x fr k h
    | some _ => M.fail
  | _ => opK P loc M o fr (fun x h => k (putF fr o.dst x) h) h

/-- Operations in an order: a guard parts. -/
def opsK (P : Program) (loc : Nat → Bool) (M : Mach A) (ops : Array Oper) : List Nat → List AV → (List AV → AHeap → A) → AHeap → A
  | [], fr, k, h => k fr h
  | i :: r, fr, k, h => match ops[i]? with
    | none => M.fail
    | some o => match o.guard with
      | none => stepK P loc M o fr (fun fr h => opsK P loc M ops r fr k h) h
      | some (j, want) => match (ops[j]?).bind (·.dst) with
        | none => M.fail
        | some t => match getF fr t with
          | .tup [] => opsK P loc M ops r (putF fr o.dst (.tup [])) k h
          | .v (.bool b) => match want with
            | true => cond b (stepK P loc M o (fr.set t (.v (.bool true))) (fun fr h => opsK P loc M ops r fr k h) h) (opsK P loc M ops r (putF (fr.set t (.v (.bool false))) o.dst (.tup [])) k h)
            | false => cond b (opsK P loc M ops r (putF (fr.set t (.v (.bool true))) o.dst (.tup [])) k h) (stepK P loc M o (fr.set t (.v (.bool false))) (fun fr h => opsK P loc M ops r fr k h) h)
          | _ => M.fail

end Go.Agm
