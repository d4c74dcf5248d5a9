/- An abstract machine for one goroutine: values as the model's, a heap by names, no order that is drawn; its definitions. No condition. -/
import Derived.Orders
import Derived.Below
namespace Go.Agm

/-! The abstract heap. -/

inductive ABlk where
  | cells (cs : List Value) (rw : Bool)
  | map (es : List (Value × Value))

def ABlk.own : ABlk → Bool
  | .cells _ rw => rw
  | .map _ => true

inductive Tr where
  | leaf
  | node (l : Tr) (x : Option ABlk) (r : Tr)

def Tr.get : Tr → Nat → Option ABlk
  | .leaf, _ => none
  | .node l x r, n => match n with
    | 0 => x
    | k + 1 => bif k % 2 == 0 then l.get (k / 2) else r.get (k / 2)

def Tr.lt : Tr → Tr
  | .leaf => .leaf
  | .node l _ _ => l
def Tr.rt : Tr → Tr
  | .leaf => .leaf
  | .node _ _ r => r
def Tr.top : Tr → Option ABlk
  | .leaf => none
  | .node _ x _ => x

def Tr.setF : Nat → Tr → Nat → Option ABlk → Tr
  | 0, t, _, b => .node t.lt b t.rt
  | f + 1, t, n, b => match n with
    | 0 => .node t.lt b t.rt
    | k + 1 => bif k % 2 == 0 then .node (setF f t.lt (k / 2) b) t.top t.rt else .node t.lt t.top (setF f t.rt (k / 2) b)

def Tr.set (t : Tr) (n : Nat) (b : Option ABlk) : Tr := Tr.setF n t n b

theorem Tr.get_eq (t : Tr) (n : Nat) : t.get n = match n with
    | 0 => t.top
    | k + 1 => bif k % 2 == 0 then t.lt.get (k / 2) else t.rt.get (k / 2) := by
  cases t with
  | leaf => cases n <;> simp [Tr.get, Tr.top, Tr.lt, Tr.rt]
  | node l x r => cases n <;> rfl

theorem Tr.get_setF (f : Nat) : ∀ (t : Tr) (n : Nat) (b : Option ABlk) (i : Nat), n ≤ f → (setF f t n b).get i = if i = n then b else t.get i := by
  induction f with
  | zero =>
    intro t n b i h
    obtain rfl : n = 0 := by omega
    rw [Tr.get_eq t]
    cases i <;> simp [Tr.setF, Tr.get]
  | succ f ih =>
    intro t n b i h
    rw [Tr.get_eq t]
    cases n with
    | zero => cases i <;> simp [Tr.setF, Tr.get]
    | succ k =>
      simp only [Tr.setF]
      by_cases hk : k % 2 = 0
      · simp only [hk, beq_self_eq_true, cond_true]
        cases i with
        | zero => simp [Tr.get]
        | succ j =>
          simp only [Tr.get]
          by_cases hj : j % 2 = 0
          · simp only [hj, beq_self_eq_true, cond_true]
            rw [ih _ _ _ _ (by omega)]
            by_cases e : j / 2 = k / 2
            · rw [if_pos e, if_pos (by omega)]
            · rw [if_neg e, if_neg (by omega)]
          · have hj' : (j % 2 == 0) = false := by simpa using hj
            rw [hj']
            simp only [cond_false]
            rw [if_neg (by omega)]
      · have hk' : (k % 2 == 0) = false := by simpa using hk
        simp only [hk', cond_false]
        cases i with
        | zero => simp [Tr.get]
        | succ j =>
          simp only [Tr.get]
          by_cases hj : j % 2 = 0
          · simp only [hj, beq_self_eq_true, cond_true]
            rw [if_neg (by omega)]
          · have hj' : (j % 2 == 0) = false := by simpa using hj
            rw [hj']
            simp only [cond_false]
            rw [ih _ _ _ _ (by omega)]
            by_cases e : j / 2 = k / 2
            · rw [if_pos e, if_pos (by omega)]
            · rw [if_neg e, if_neg (by omega)]

/-- Of some names the type of a block's elements is known. -/
structure AHeap where
  next : Nat
  tr : Tr
  ty : List (Nat × TypeId) := []

def AHeap.get (h : AHeap) (i : Nat) : Option ABlk := h.tr.get i
def AHeap.put (h : AHeap) (i : Nat) (b : ABlk) : AHeap := { next := h.next, tr := h.tr.set i (some b), ty := h.ty }
def AHeap.del (h : AHeap) (i : Nat) : AHeap := { next := h.next, tr := h.tr.set i none, ty := h.ty }
def AHeap.new (h : AHeap) (b : ABlk) : AHeap := { next := h.next + 1, tr := h.tr.set h.next (some b), ty := h.ty }
def AHeap.typ (h : AHeap) (b : Nat) (t : TypeId) : AHeap := { next := h.next, tr := h.tr, ty := (b, t) :: h.ty }
def AHeap.tyOf (h : AHeap) (b : Nat) (t : TypeId) : Bool := h.ty.any fun p => Nat.beq p.1 b && p.2 == t
def AHeap.typIf (c : Bool) (h : AHeap) (b : Nat) (t : TypeId) : AHeap := bif c then h.typ b t else h

theorem AHeap.get_put (h : AHeap) (i j : Nat) (b : ABlk) : (h.put i b).get j = if j = i then some b else h.get j := Tr.get_setF _ _ _ _ _ (Nat.le_refl _)
theorem AHeap.get_typ (h : AHeap) (b : Nat) (t : TypeId) (j : Nat) : (h.typ b t).get j = h.get j := rfl
theorem AHeap.tyOf_mem {h : AHeap} {b : Nat} {t : TypeId} (e : h.tyOf b t = true) : (b, t) ∈ h.ty := by
  unfold AHeap.tyOf at e
  rw [List.any_eq_true] at e
  obtain ⟨p, hp, e⟩ := e
  simp only [Bool.and_eq_true, beq_iff_eq] at e
  have h1 := Nat.eq_of_beq_eq_true e.1
  rw [← h1, ← e.2]; exact hp
theorem AHeap.get_del (h : AHeap) (i j : Nat) : (h.del i).get j = if j = i then none else h.get j := Tr.get_setF _ _ _ _ _ (Nat.le_refl _)
theorem AHeap.get_new (h : AHeap) (j : Nat) (b : ABlk) : (h.new b).get j = if j = h.next then some b else h.get j := Tr.get_setF _ _ _ _ _ (Nat.le_refl _)

/-! What stands in a slot of a frame. -/

inductive AV where
  | v (x : Value)
  | blk (cs : List Value)
  | ref (slot off : Nat)
  | tup (xs : List Value)
  | dead

/-- A value of one cell. -/
def one : Value → Bool
  | .agg _ => false
  | .tuple _ => false
  | _ => true

def plainD : Nat → Value → Bool
  | _, .bool _ => true
  | _, .int _ _ => true
  | _, .string _ => true
  | _, .pointer none => true
  | _, .slice none 0 0 => true
  | _, .map none => true
  | _, .nilFunc => true
  | _, .nilIface => true
  | n + 1, .agg cs => cs.toList.all (plainD n) && cs.toList.all one
  | n + 1, .iface _ v => plainD n v
  | _, _ => false

/-- A run of the model's own text that looks at the program alone. -/
def runP {α : Type} (p : Program) : Sem α → Option α
  | .pure a => some a
  | .program k => runP p (k p)
  | _ => none

theorem run_of_runP {α : Type} {p : Program} {s : Sem α} {a : α} (h : runP p s = some a) (w : World) : s.run p w = .ok a w := by
  induction s generalizing w with
  | pure b => simp only [runP, Option.some.injEq] at h; subst h; rfl
  | program k ih => exact ih p h w
  | _ => simp [runP] at h

def getF (fr : List AV) (t : Nat) : AV := fr.getD t .dead
def putF (fr : List AV) (d : Option Nat) (x : AV) : List AV := match d with
  | some d => fr.set d x
  | none => fr
/-- No slot holds a place within a slot's own block. -/
def noRefs (t : Nat) : List AV → Bool
  | [] => true
  | .ref s _ :: r => !(s == t) && noRefs t r
  | _ :: r => noRefs t r

def opA (P : Program) (fr : List AV) : Operand → AV
  | .tmp t => getF fr t
  | .const c => bif plainD 4 c then .v c else .dead
  | .global g => bif Nat.blt g P.globals.size then .v (.pointer (some ⟨g, 0, none⟩)) else .dead
  | .func f => .v (.func (.func f) #[] #[])

def valA (P : Program) (fr : List AV) (o : Operand) : Option Value := match opA P fr o with
  | .v x => some x
  | _ => none

def valsA (P : Program) (fr : List AV) : List Operand → Option (List Value)
  | [] => some []
  | o :: os => (valA P fr o).bind fun x => (valsA P fr os).bind fun xs => some (x :: xs)

/-- A place: in a named block, or in a slot's own block. -/
inductive Loc where
  | main (b off : Nat)
  | loc (slot off : Nat)

def locA (P : Program) (fr : List AV) (o : Operand) : Option Loc := match opA P fr o with
  | .v (.pointer (some ⟨b, off, none⟩)) => some (.main b off)
  | .blk _ => match o with
    | .tmp t => some (.loc t 0)
    | _ => none
  | .ref s off => match getF fr s with
    | .blk _ => some (.loc s off)
    | _ => none
  | _ => none

def Loc.cells (fr : List AV) (h : AHeap) : Loc → Option (List Value)
  | .main b _ => match h.get b with
    | some (.cells cs _) => some cs
    | _ => none
  | .loc s _ => match getF fr s with
    | .blk cs => some cs
    | _ => none
def Loc.off : Loc → Nat
  | .main _ o => o
  | .loc _ o => o

def aggT (P : Program) (t : TypeId) : Bool := match P.underlying t with
  | some (.struct _) => true
  | some (.array _ _) => true
  | _ => false
def sizeT (P : Program) (t : TypeId) : Option Nat := (P.info? t).map (·.size)
def bytesT (P : Program) (t : TypeId) : Option Nat := (P.info? t).map (·.bytes)

/-- What lies at a place, as a value of a type. -/
def readC (P : Program) (t : TypeId) (cs : List Value) (off : Nat) : Option Value :=
  match P.underlying t with
  | some (.struct _) | some (.array _ _) => (sizeT P t).bind fun n => bif Nat.ble (off + n) cs.length then some (.agg ((cs.drop off).take n).toArray) else none
  | some _ => cs[off]?
  | none => none

/-- Cells laid over others. -/
def splice (cs : List Value) (off : Nat) (xs : List Value) : List Value := cs.take off ++ xs ++ cs.drop (off + xs.length)

def zeroT (P : Program) (t : TypeId) : Option (List Value) := match (P.info? t).bind (·.zero) with
  | some z => bif z.cells.toList.all (plainD 2) && z.cells.toList.all one then some z.cells.toList else none
  | none => none

def fieldOff (P : Program) (s : TypeId) (f : Nat) : Option (Nat × TypeId) := match P.underlying s with
  | some (.struct fs) => match fs[f]? with
    | some x => match sizeT P x.type with
      | some (_ + 1) => some (x.offset, x.type)
      | _ => none
    | none => none
  | _ => none

/-! Operations on values alone. -/

def nilEq (P : Program) (t : TypeId) : Value → Value → Option Bool
  | .pointer a, .pointer none => match P.underlying t with
    | some (.pointer _) => some a.isNone
    | _ => none
  | .pointer none, .pointer b => match P.underlying t with
    | some (.pointer _) => some b.isNone
    | _ => none
  | .pointer (some a), .pointer (some b) => match P.underlying t with
    | some (.pointer e) => match sizeT P e with
      | some (_ + 1) => bif a.block == b.block && a.spot.isNone && b.spot.isNone then some (a.off == b.off) else none
      | _ => none
    | _ => none
  | .nilIface, .iface _ _ => match P.underlying t with
    | some (.interface _) => some false
    | _ => none
  | .iface _ _, .nilIface => match P.underlying t with
    | some (.interface _) => some false
    | _ => none
  | .slice none _ _, .slice none _ _ => match P.underlying t with
    | some (.slice _) => some true
    | _ => none
  | .slice (some _) n sz, .slice none _ _ => match P.underlying t with
    | some (.slice _) => bif Nat.blt 0 n || Nat.beq sz 0 then some false else none
    | _ => none
  | .map a, .map none => match P.underlying t with
    | some (.map _ _) => some a.isNone
    | _ => none
  | .func _ _ _, .nilFunc => match P.underlying t with
    | some (.func _ _ _) => some false
    | _ => none
  | _, _ => none

def plainOut (r : Option Value) : Option Value := r.bind fun x => bif plainD 5 x then some x else none

/-- Structs of numbers, truth values and strings, cell by cell. -/
def eqF (P : Program) : List Field → Array Value → Array Value → Option Bool
  | [], _, _ => some true
  | f :: r, xs, ys => bif f.name == "_" then none else match P.underlying f.type, xs[f.offset]?, ys[f.offset]? with
    | some (.int _), some (.int k a), some (.int k' b) => bif k == k' then (eqF P r xs ys).map fun c => (a == b) && c else none
    | some .bool, some (.bool a), some (.bool b) => (eqF P r xs ys).map fun c => (a == b) && c
    | some .string, some (.string a), some (.string b) => (eqF P r xs ys).map fun c => (a == b) && c
    | _, _, _ => none

/-- Arrays of numbers, cell by cell. -/
def eqL : List Value → List Value → Option Bool
  | [], [] => some true
  | .int k a :: r, .int k' b :: s => bif k == k' then (eqL r s).map fun c => (a == b) && c else none
  | _, _ => none
def eqAr (P : Program) (len : Nat) (el : TypeId) (xs ys : Array Value) : Option Bool := match P.underlying el with
  | some (.int _) => bif Nat.beq xs.toList.length len && Nat.beq ys.toList.length len then eqL xs.toList ys.toList else none
  | _ => none
def oneT (P : Program) (el : TypeId) : Bool := match sizeT P el with
  | some n => Nat.beq n 1
  | none => false

def eqS (P : Program) (t : TypeId) (x y : Value) : Option Bool := match x, y, P.underlying t with
  | .agg xs, .agg ys, some (.struct fs) => bif P.stoodInHeld t || P.eqGuardType P.depth t then none else eqF P fs.toList xs ys
  | .agg xs, .agg ys, some (.array len el) => bif oneT P el then eqAr P len el xs ys else none
  | _, _, _ => none

def binA (P : Program) (op : BinOp) (t : TypeId) (ox oy : Operand) (x y : Value) : Option Value :=
  bif plainD 4 x && plainD 4 y then match eqS P t x y with
    | some b => match op with
      | .eql => (runP P (eqGuard .eql t ox oy x y)).bind fun _ => some (.bool b)
      | .neq => (runP P (eqGuard .neq t ox oy x y)).bind fun _ => some (.bool !b)
      | _ => none
    | none => plainOut (runP P (do eqGuard op t ox oy x y; binOp op t x y))
  else match op with
    | .eql => (nilEq P t x y).bind fun b => some (.bool b)
    | .neq => (nilEq P t x y).bind fun b => some (.bool !b)
    | _ => none

/-- Division of numbers: whether it is by nothing, and what comes of it. -/
def divA (op : BinOp) (x y : Value) : Option (Bool × Value) := match op, x, y with
  | .quo, .int k a, .int k' b => bif k == k' then some (b == 0, .int k (k.wrap (a.tdiv b))) else none
  | .rem, .int k a, .int k' b => bif k == k' then some (b == 0, .int k (a.tmod b)) else none
  | _, _, _ => none

def unA (P : Program) (op : UnOp) (x : Value) : Option Value :=
  bif plainD 0 x then plainOut (runP P (Op.unary op x)) else none

def convA (P : Program) (src dst : TypeId) (x : Value) : Option Value :=
  bif plainD 0 x then plainOut (runP P (convert src dst x)) else none

def partA (P : Program) (t : TypeId) (cs : List Value) (off : Nat) : Option Value := match P.underlying t with
  | some (.struct _) | some (.array _ _) => (sizeT P t).bind fun n => bif Nat.ble (off + n) cs.length then some (.agg ((cs.drop off).take n).toArray) else none
  | some _ => cs[off]?
  | none => none

def fieldA (P : Program) (t : TypeId) (x : Value) (f : Nat) : Option Value := match x with
  | .agg cs => (fieldOff P t f).bind fun p => partA P p.2 cs.toList p.1
  | _ => none

def strAt (s : ByteArray) (i : Int) : Option Value := bif decide (0 ≤ i) then (s[i.toNat]?).bind fun b => some (.int .u8 b.toNat) else none

def indexA (P : Program) (t : TypeId) (x i : Value) : Option Value := match P.underlying t, x, i with
  | some .string, .string s, .int _ i => strAt s i
  | some (.array n e), .agg cs, .int _ i => (sizeT P e).bind fun sz => bif decide (0 ≤ i) && decide (i < n) then partA P e cs.toList (i.toNat * sz) else none
  | _, _, _ => none

def fillA (place : Nat → Option (Nat × Nat)) (cells : List Value) : List (Nat × Value) → Option (List Value)
  | [] => some cells
  | (i, x) :: rest => match place i with
    | none => none
    | some (off, size) => bif x.cells.size == size && Nat.ble (off + size) cells.length then fillA place (splice cells off x.cells.toList) rest else none

def placeT (P : Program) (t : TypeId) (i : Nat) : Option (Nat × Nat) := match P.underlying t with
  | some (.struct fs) => (fs[i]?).bind fun f => (sizeT P f.type).bind fun n => some (f.offset, n)
  | some (.array _ e) => (sizeT P e).bind fun n => some (i * n, n)
  | _ => none

/-- All parts have a size. -/
def partsT (P : Program) (t : TypeId) : Bool := match P.underlying t with
  | some (.struct fs) => fs.toList.all fun f => (sizeT P f.type).isSome
  | some (.array _ e) => (sizeT P e).isSome
  | _ => false

def buildA (P : Program) (t : TypeId) (parts : List (Nat × Value)) : Option Value :=
  bif partsT P t then (zeroT P t).bind fun z => (fillA (placeT P t) z parts).bind fun cs => some (.agg cs.toArray) else none

def lenA (P : Program) (t : TypeId) (x : Value) : Option Value := match P.underlying t, x with
  | some .string, .string s => some (.int .i64 s.size)
  | some (.array n _), _ => some (.int .i64 n)
  | some (.slice _), .slice _ n _ => some (.int .i64 n)
  | some (.map _ _), .map none => some (.int .i64 0)
  | _, _ => none

def mm2 (P : Program) (mx : Bool) (x y : Value) : Option Value :=
  bif plainD 0 x && plainD 0 y then plainOut (runP P (bif mx then Builtin.max2 x y else Builtin.min2 x y)) else none

def mmA (P : Program) (mx : Bool) : Value → List Value → Option Value
  | x, [] => some x
  | x, y :: r => (mm2 P mx x y).bind fun z => mmA P mx z r

/-- Bounds of a slice expression: low and high. -/
def boundsA (n : Nat) : Option Value → Option Value → Option (Nat × Nat)
  | none, none => some (0, n)
  | none, some (.int _ h) => bif decide (0 ≤ h) && decide (h ≤ n) then some (0, h.toNat) else none
  | some (.int _ l), none => bif decide (0 ≤ l) && decide (l ≤ n) then some (l.toNat, n) else none
  | some (.int _ l), some (.int _ h) => bif decide (0 ≤ h) && decide (h ≤ n) && decide (0 ≤ l) && decide (l ≤ h) then some (l.toNat, h.toNat) else none
  | _, _ => none

def ifaceT (P : Program) (t : TypeId) : Bool := match P.underlying t with
  | some (.interface _) => true
  | _ => false

/-- The method of a type by its name: where its receiver is the value itself. -/
def methodA (P : Program) (t : TypeId) (name : String) : Option FuncId := match P.info? t with
  | some i => match i.methods.find? (·.name == name) with
    | some m => bif m.path.isEmpty then match m.func, P.underlying t with
        | some (f, true), some (.pointer _) => some f
        | some (_, false), some (.pointer _) => none
        | some (f, false), some _ => some f
        | _, _ => none
      else none
    | none => none
  | none => none

def enters (P : Program) (f : FuncId) : Bool := match P.funcs[f]? with
  | some fn => fn.body.isSome && !(fn.name == "runtime.NumGoroutine")
  | none => false

end Go.Agm
