/- An abstract machine for one goroutine: the same steps, with what hangs on numbers that are not known as branches. No condition. -/
import Derived.Test.YtkjdfkodclednaaDoorB3
namespace Go.Agm
universe u

variable {P : Program} {loc : Nat → Bool} {F : FT}

def nth : List Value → Nat → Option Value
  | [], _ => none
  | x :: _, 0 => some x
  | _ :: r, n + 1 => nth r n
theorem nth_eq : ∀ (cs : List Value) (i : Nat), nth cs i = cs[i]?
  | [], _ => by simp [nth]
  | x :: r, 0 => by simp [nth]
  | x :: r, n + 1 => by simp [nth, nth_eq r n]

def okI (k : IntKind) (o : Option Value) : Bool := match o with
  | some (.int k' _) => k' == k
  | _ => false
def intO (o : Option Value) : Int := match o with
  | some (.int _ n) => n
  | _ => 0
def okB (o : Option Value) : Bool := match o with
  | some (.bool _) => true
  | _ => false
def boolO (o : Option Value) : Bool := match o with
  | some (.bool b) => b
  | _ => false
def okS (o : Option Value) : Bool := match o with
  | some (.string _) => true
  | _ => false
def strO (o : Option Value) : ByteArray := match o with
  | some (.string s) => s
  | _ => ByteArray.empty

def readD (d : TypeDesc) (o : Option Value) : Option (Bool × Value) := match d with
  | .int k => some (okI k o, .int k (intO o))
  | .bool => some (okB o, .bool (boolO o))
  | .string => some (okS o, .string (strO o))
  | _ => none
theorem readD_ok {d : TypeDesc} {o : Option Value} {v : Value} (e : readD d o = some (true, v)) : o = some v := by
  unfold readD at e
  split at e
  · rename_i k
    simp only [Option.some.injEq, Prod.mk.injEq] at e
    obtain ⟨h1, rfl⟩ := e
    unfold okI at h1
    split at h1
    · rename_i k' n
      simp only [beq_iff_eq] at h1
      subst h1; rfl
    · simp at h1
  · simp only [Option.some.injEq, Prod.mk.injEq] at e
    obtain ⟨h1, rfl⟩ := e
    unfold okB at h1
    split at h1
    · rfl
    · simp at h1
  · simp only [Option.some.injEq, Prod.mk.injEq] at e
    obtain ⟨h1, rfl⟩ := e
    unfold okS at h1
    split at h1
    · rfl
    · simp at h1
  · simp at e

def readFs (P : Program) (cs : List Value) : List TypeId → Nat → Nat → Option (Bool × List Value)
  | [], _, _ => some (true, [])
  | t :: r, off, i => match P.underlying t with
    | some d => match readD d (nth cs (off + i)) with
      | some p => match readFs P cs r off (i + 1) with
        | some q => some (p.1 && q.1, p.2 :: q.2)
        | none => none
      | none => none
    | none => none
theorem readFs_ok {cs : List Value} : ∀ {ts : List TypeId} {off i : Nat} {vs : List Value}, readFs P cs ts off i = some (true, vs) → (cs.drop (off + i)).take ts.length = vs
  | [], off, i, vs, e => by simp [readFs] at e; simp [e]
  | t :: r, off, i, vs, e => by
    simp only [readFs] at e
    split at e
    · split at e
      · rename_i p hp
        split at e
        · rename_i q hq
          rw [Option.some.injEq, Prod.mk.injEq, Bool.and_eq_true] at e
          obtain ⟨⟨h1, h2⟩, rfl⟩ := e
          obtain ⟨p1, p2⟩ := p
          obtain ⟨q1, q2⟩ := q
          simp only at h1 h2
          subst h1 h2
          have k1 := readD_ok hp
          rw [nth_eq] at k1
          have k2 := readFs_ok hq
          have k3 : cs.drop (off + i) = p2 :: cs.drop (off + (i + 1)) := by
            obtain ⟨hl, he⟩ := List.getElem?_eq_some_iff.1 k1
            rw [List.drop_eq_getElem_cons hl, he]; rfl
          rw [k3, List.length_cons, List.take_succ_cons, k2]
        · simp at e
      · simp at e
    · simp at e

/-- Structs and arrays cell by cell. -/
def readA (P : Program) (t : TypeId) (cs : List Value) (off : Nat) : Option (Bool × Value) := match sizeT P t, P.cellTypes P.depth t with
  | some n, some ts => bif Nat.beq n ts.length then (match readFs P cs ts off 0 with
    | some p => some (Nat.ble (off + n) cs.length && p.1, .agg p.2.toArray)
    | none => none) else none
  | _, _ => none
def readT (P : Program) (t : TypeId) (cs : List Value) (off : Nat) : Option (Bool × Value) := match P.underlying t with
  | some (.struct _) => readA P t cs off
  | some (.array _ _) => readA P t cs off
  | some d => readD d (nth cs off)
  | none => none
theorem readA_ok {t : TypeId} {cs : List Value} {off : Nat} {v : Value} (e : readA P t cs off = some (true, v)) : ∃ n, sizeT P t = some n ∧ Nat.ble (off + n) cs.length = true ∧ v = .agg ((cs.drop off).take n).toArray := by
  unfold readA at e
  split at e
  · rename_i n ts hn ht
    cases hb : Nat.beq n ts.length with
    | false => rw [hb] at e; simp at e
    | true =>
      rw [hb, cond_true] at e
      split at e
      · rename_i p hp
        simp only [Option.some.injEq, Prod.mk.injEq, Bool.and_eq_true] at e
        obtain ⟨⟨h1, h2⟩, rfl⟩ := e
        obtain ⟨p1, p2⟩ := p
        simp only at h2
        subst h2
        have := readFs_ok hp
        rw [Nat.add_zero] at this
        exact ⟨n, hn, h1, by rw [Nat.eq_of_beq_eq_true hb, this]⟩
      · simp at e
  · simp at e
theorem readT_ok {t : TypeId} {cs : List Value} {off : Nat} {v : Value} (e : readT P t cs off = some (true, v)) : readC P t cs off = some v := by
  unfold readT at e
  unfold readC
  split at e
  · rename_i fs hu
    obtain ⟨n, h1, h2, rfl⟩ := readA_ok e
    simp only [hu, h1, Option.bind_some, h2, cond_true]
  · rename_i k el hu
    obtain ⟨n, h1, h2, rfl⟩ := readA_ok e
    simp only [hu, h1, Option.bind_some, h2, cond_true]
  · rename_i d hd1 hd2 hu
    have := readD_ok e
    rw [nth_eq] at this
    split
    · rename_i h; rw [h] at hu; exact absurd (Option.some.inj hu).symm (hd1 _)
    · rename_i h; rw [h] at hu; exact absurd (Option.some.inj hu).symm (hd2 _ _)
    · exact this
    · rename_i h; rw [h] at hu; simp at hu
  · simp at e

variable {A : Sort u}

def boundsB (n : Nat) : Option Value → Option Value → Option (Bool × Nat × Nat)
  | none, none => some (true, 0, n)
  | none, some (.int _ h) => some (decide (0 ≤ h) && decide (h ≤ n), 0, h.toNat)
  | some (.int _ l), none => some (decide (0 ≤ l) && decide (l ≤ n), l.toNat, n)
  | some (.int _ l), some (.int _ h) => some (decide (0 ≤ h) && decide (h ≤ n) && decide (0 ≤ l) && decide (l ≤ h), l.toNat, h.toNat)
  | _, _ => none
theorem boundsB_eq {n : Nat} {lo hi : Option Value} {p : Nat × Nat} (e : boundsB n lo hi = some (true, p)) : boundsA n lo hi = some p := by
  unfold boundsB at e
  unfold boundsA
  split at e <;> simp_all

def subK (P : Program) (M : Mach A) (t : TypeId) (x : Value) (lo hi : Option Value) (k : Value → A) : A :=
  match P.underlying t, x with
  | some .string, .string s => match boundsB s.size lo hi with
    | some p => bif p.1 then k (.string (s.extract p.2.1 p.2.2)) else M.fail
    | none => M.fail
  | some (.slice e), .slice (some ⟨b, off, none⟩) n sz => match sizeT P e with
    | some size => match boundsB n lo hi with
      | some p => bif p.1 then (bif sz == size || n == 0 then k (.slice (some ⟨b, off + p.2.1 * size, none⟩) (p.2.2 - p.2.1) sz) else M.fail) else M.fail
      | none => M.fail
    | none => M.fail
  | _, _ => M.on (subA P t x lo hi) k

/-- The slice of an array in a block. -/
def subArrK (P : Program) (M : Mach A) (t : TypeId) (b off : Nat) (lo hi : Option Value) (h : AHeap) (k : Value → A) : A := match P.underlying t with
  | some (.array n e) => match sizeT P e with
    | some size => match boundsB n lo hi with
      | some p => bif p.1 then (match h.get b with
        | some (.cells cs _) => bif Nat.ble (off + n * size) cs.length && Nat.blt 0 size then k (.slice (some ⟨b, off + p.2.1 * size, none⟩) (p.2.2 - p.2.1) size) else M.fail
        | _ => M.fail) else M.fail
      | none => M.fail
    | none => M.fail
  | _ => M.fail
/-- A copy of a text. -/
def copyK (P : Program) (M : Mach A) (t : TypeId) (d x : Value) (h : AHeap) (k : Value → AHeap → A) : A := match P.underlying t, d, x with
  | some (.slice e), .slice (some ⟨b, off, none⟩) n _, .string s => match sizeT P e with
    | some size => M.on (sourceA h size (.string s)) fun new => match h.get b with
      | some (.cells cs true) => bif Nat.ble (off + n * size) cs.length && Nat.ble (Nat.min s.size n * size) new.length then
          k (.int .i64 (Nat.min s.size n)) (h.put b (.cells (splice cs off (new.take (Nat.min s.size n * size))) true)) else M.fail
      | _ => M.fail
    | none => M.fail
  | _, _, _ => M.on (copyA P t d x h) fun p => k p.1 p.2

def appendK (P : Program) (M : Mach A) (t xt : TypeId) (s x : Value) (h : AHeap) (k : Value → AHeap → A) : A :=
  match P.underlying t, P.underlying xt with
  | some (.slice e), some xd => bif !srcD xd then M.fail else
    match sizeT P e, bytesT P e, countA x with
    | some size, some bytes, some m =>
      bif Nat.beq m 0 then (match s with
        | .slice _ _ _ => k s h
        | _ => M.fail) else
      bif !(Nat.blt 0 bytes && zeroOk P e size && Nat.blt 0 size) then M.fail else
      let go : List Value → A := fun new => match s with
        | .slice none n sz => bif Nat.beq n 0 && Nat.beq sz 0 then (bif room m bytes then k (.slice (some ⟨h.next, 0, none⟩) m size) ((h.new (.cells new true)).typ h.next e) else M.fail) else M.fail
        | .slice (some ⟨b, off, none⟩) n sz => bif Nat.beq sz 0 then (bif Nat.beq n 0 then (bif room m bytes then k (.slice (some ⟨h.next, 0, none⟩) m size) ((h.new (.cells new true)).typ h.next e) else M.fail) else M.fail) else
          match h.get b with
          | some (.cells cs true) => bif Nat.beq sz size then (bif room (n + m) bytes then (bif Nat.ble (off + n * size) cs.length then
              k (.slice (some ⟨h.next, 0, none⟩) (n + m) size) (AHeap.typIf (Nat.beq off 0 && h.tyOf b e) ((h.del b).new (.cells ((cs.drop off).take (n * size) ++ new) true)) h.next e) else M.fail) else M.fail) else M.fail
          | _ => M.fail
        | _ => M.fail
      match x with
      | .slice (some ⟨b, off, none⟩) n _ => match h.get b with
        | some (.cells cs _) => bif Nat.ble (off + n * size) cs.length then go ((cs.drop off).take (n * size)) else M.fail
        | _ => M.fail
      | .string s => bif size == 1 then go (s.data.toList.map fun b => .int .u8 b.toNat) else M.fail
      | _ => M.fail
    | _, _, _ => M.fail
  | _, _ => M.fail

def clearK (P : Program) (M : Mach A) (t : TypeId) (d : Value) (h : AHeap) (k : AHeap → A) : A :=
  match P.underlying t, d with
  | some (.slice e), .slice (some ⟨b, off, none⟩) n _ => bif Nat.beq n 0 then k h else match zeroT P e with
    | some z => match h.get b with
      | some (.cells cs true) => bif Nat.ble (off + n * z.length) cs.length then k (h.put b (.cells (splice cs off (List.replicate n z).flatten) true)) else M.fail
      | _ => M.fail
    | none => M.fail
  | _, _ => M.on (clearA P t d h) k

def isNilCmp (P : Program) (t : TypeId) (op : BinOp) (a b : Value) : Option (Bool × Bool) := match a, b with
  | .slice (some _) n sz, .slice none _ _ => match P.underlying t, op with
    | some (.slice _), .eql => some (Nat.blt 0 n || Nat.beq sz 0, false)
    | some (.slice _), .neq => some (Nat.blt 0 n || Nat.beq sz 0, true)
    | _, _ => none
  | _, _ => none

/-! Texts: what hangs on their lengths. -/

def u8O (v : Value) : UInt8 := match v with
  | .int _ n => UInt8.ofNat n.toNat
  | _ => 0
def isU8 (v : Value) : Bool := match v with
  | .int .u8 _ => true
  | _ => false
theorem bytesOf_all : ∀ {cs : List Value}, cs.all isU8 = true → bytesOf cs = some (cs.map u8O)
  | [], _ => rfl
  | v :: r, e => by
    simp only [List.all_cons, Bool.and_eq_true] at e
    obtain ⟨h1, h2⟩ := e
    unfold isU8 at h1
    split at h1
    · rename_i n
      simp only [bytesOf, bytesOf_all h2, Option.map_some, List.map_cons, u8O]
    · simp at h1
def unsK (P : Program) (M : Mach A) (pt : TypeId) (a n : Value) (h : AHeap) (k : Value → AHeap → A) : A := match a, n with
  | .pointer (some ⟨b, 0, none⟩), .int .i64 n => match P.underlying pt, h.get b with
    | some (.pointer e), some (.cells cs true) => bif h.tyOf b e && Nat.beq (P.cellsOf e) 1 then (bif decide (0 < n) && decide (n ≤ 1099511627776) && Nat.ble n.toNat cs.length && (cs.take n.toNat).all isU8 then
        k (strV ((cs.take n.toNat).map u8O)) (h.del b) else M.fail) else M.fail
    | _, _ => M.fail
  | _, _ => M.on (unsStr P pt a n h) fun p => k p.1 p.2
def sdK (M : Mach A) (a : Value) (k : Value → A) : A := match a with
  | .slice (some ⟨b, off, none⟩) n _ => bif Nat.blt 0 n then k (.pointer (some ⟨b, off, none⟩)) else M.fail
  | _ => M.on (sliceDataA a) k
def convK (P : Program) (M : Mach A) (src dst : TypeId) (a : Value) (h : AHeap) (k : Value → A) : A := match P.underlying src, P.underlying dst with
  | some (.slice e), some .string => match P.underlying e, a with
    | some (.int .u8), .slice (some ⟨b, off, none⟩) n sz => match h.get b with
      | some (.cells cs _) => bif Nat.beq n 0 then k (strV []) else (bif Nat.beq sz 1 && Nat.ble (off + n) cs.length && ((cs.drop off).take n).all isU8 then k (strV (((cs.drop off).take n).map u8O)) else M.fail)
      | _ => M.on (convH P src dst a h) k
    | _, _ => M.on (convH P src dst a h) k
  | _, _ => M.on (convH P src dst a h) k
def byteI (s : ByteArray) (i : Int) : Int := ((s.data.toList.getD i.toNat 0).toNat : Int)
def indexK (P : Program) (M : Mach A) (t : TypeId) (x i : Value) (k : Value → A) : A := match P.underlying t, x, i with
  | some .string, .string s, .int _ i => bif decide (0 ≤ i) && decide (i < s.size) then k (.int .u8 (byteI s i)) else M.fail
  | some (.array n e), .agg cs, .int kk i => match sizeT P e with
    | some sz => match readT P e cs.toList (i.toNat * sz) with
      | some p => bif decide (0 ≤ i) && decide (i < n) then (bif p.1 then k p.2 else M.fail) else M.fail
      | none => M.on (indexA P t x (.int kk i)) k
    | none => M.fail
  | _, _, _ => M.on (indexA P t x i) k
def addS (op : BinOp) (a b : Value) : Option (ByteArray × ByteArray) := match op, a, b with
  | .add, .string a, .string b => some (a, b)
  | _, _, _ => none
theorem addS_some {op : BinOp} {a b : Value} {p : ByteArray × ByteArray} (e : addS op a b = some p) : op = .add ∧ a = .string p.1 ∧ b = .string p.2 := by
  unfold addS at e
  split at e
  · simp only [Option.some.injEq] at e
    subst e
    exact ⟨rfl, rfl, rfl⟩
  · simp at e

def hasK (k : Value) : List (Value × Value) → Bool
  | [] => false
  | e :: r => keyEq k e.1 || hasK k r
theorem hasK_get {k : Value} : ∀ {es : List (Value × Value)}, (hasK k es = false → getK k es = none) ∧ (hasK k es = true → (getK k es).isSome = true)
  | [] => ⟨fun _ => rfl, fun h => by simp [hasK] at h⟩
  | e :: r => by
    obtain ⟨h1, h2⟩ := hasK_get (k := k) (es := r)
    simp only [hasK, getK]
    cases keyEq k e.1 with
    | true => exact ⟨fun h => by simp at h, fun _ => rfl⟩
    | false => simpa using ⟨h1, h2⟩
def elemD (P : Program) (t : TypeId) : Option TypeDesc := match P.underlying t with
  | some (.map _ et) => P.underlying et
  | _ => none
/-- One operation, but a store; what hangs on numbers is a branch. -/
def opK2 (P : Program) (loc : Nat → Bool) (M : Mach A) (o : Oper) (fr : List AV) (k : AV → AHeap → A) (h : AHeap) : A :=
  match o.op with
  | .load t a => M.on (locA P fr a) fun l => M.on (l.cells fr h) fun cs => match readT P t cs l.off with
    | some p => bif p.1 then k (.v p.2) h else M.fail
    | none => M.on (readC P t cs l.off) fun x => k (.v x) h
  | .indexAddr t x i => M.on (valA P fr i) fun j => bif isArr P t then M.on (locA P fr x) fun l => (match P.underlying t, j with
      | some (.array n e), .int _ i => match sizeT P e with
        | some size => bif decide (0 ≤ i) && decide (i < n) then k (l.addA (i.toNat * size)) h else M.fail
        | none => M.fail
      | _, _ => M.fail)
    else M.on (valA P fr x) fun a => (match P.underlying t, a, j with
      | some (.slice e), .slice (some ⟨b, off, none⟩) n _, .int _ i => match sizeT P e with
        | some size => bif decide (0 ≤ i) && decide (i < n) then k (.v (.pointer (some ⟨b, off + i.toNat * size, none⟩))) h else M.fail
        | none => M.fail
      | _, _, _ => M.fail)
  | .lookup t m kk ok => M.on (valA P fr m) fun a => M.on (valA P fr kk) fun b => M.on (keyMap P t a b h) fun p => M.on (zeroM P t) fun z =>
      bif p.2.2.all fun e => isKeyD p.2.1 e.1 then (match elemD P t with
        | some d => match readD d (getK b p.2.2) with
          | some q => bif hasK b p.2.2 then (bif q.1 then k (lkA ok q.2 true) h else M.fail) else k (lkA ok z false) h
          | none => M.fail
        | none => M.fail) else M.fail
  | .slice t x lo hi mx => match mx with
    | some _ => M.fail
    | none => bif isArr P t then M.on (valsA P fr lo.toList) fun l => M.on (valsA P fr hi.toList) fun u => (match locA P fr x with
      | some (.main b off) => subArrK P M t b off l.head? u.head? h fun y => k (.v y) h
      | _ => M.fail) else M.on (valsA P fr lo.toList) fun l => M.on (valsA P fr hi.toList) fun u => M.on (valA P fr x) fun a => subK P M t a l.head? u.head? fun y => k (.v y) h
  | .makeSlice t l c => M.on (valA P fr l) fun x => M.on (valA P fr c) fun y => match P.underlying t, x, y with
    | some (.slice e), .int _ l, .int _ c => match bytesT P e, sizeT P e, zeroT P e with
      | some bytes, some size, some z => bif size == z.length && Nat.blt 0 size then (bif decide (0 ≤ l) && decide (l ≤ c) && decide (c ≤ 1099511627776) && room c.toNat bytes then
          k (.v (.slice (some ⟨h.next, 0, none⟩) l.toNat size)) (h.new (.cells (List.replicate c.toNat z).flatten true)) else M.fail) else M.fail
      | _, _, _ => M.fail
    | _, _, _ => M.fail
  | .binOp op t x y _ => M.on (valA P fr x) fun a => M.on (valA P fr y) fun b => match isNilCmp P t op a b with
    | some p => bif p.1 then k (.v (.bool p.2)) h else M.fail
    | none => match addS op a b with
      | some p => bif Nat.ble (p.1.size + p.2.size) 1099511627776 then k (.v (strV (p.1.data.toList ++ p.2.data.toList))) h else M.fail
      | none => match divA op a b with
        | some p => bif p.1 then M.fail else k (.v p.2) h
        | none => match bin2 P op t a b with
          | some z => k (.v z) h
          | none => M.on (binA P op t x y a b) fun c => k (.v c) h
  | .convert src dst x => M.on (valA P fr x) fun a => convK P M src dst a h fun c => k (.v c) h
  | .index t x i => M.on (valA P fr x) fun a => M.on (valA P fr i) fun j => indexK P M t a j fun y => k (.v y) h
  | .call c => match c.callee with
    | .builtin .append => match c.args.toList, c.argTypes.toList with
      | [x, y], [t, u] => M.on (valA P fr x) fun a => M.on (valA P fr y) fun b => appendK P M t u a b h fun v h => k (.v v) h
      | _, _ => M.fail
    | .builtin .copy => match c.args.toList, c.argTypes.toList with
      | [x, y], [t, _] => M.on (valA P fr x) fun a => M.on (valA P fr y) fun b => copyK P M t a b h fun v h => k (.v v) h
      | _, _ => M.fail
    | .builtin .clear => match c.args.toList, c.argTypes.toList with
      | [x], [t] => M.on (valA P fr x) fun a => clearK P M t a h fun h' => k (.tup []) h'
      | _, _ => M.fail
    | .builtin .unsafeSliceData => match c.args.toList with
      | [x] => M.on (valA P fr x) fun a => sdK M a fun y => k (.v y) h
      | _ => M.fail
    | .builtin .unsafeString => match c.args.toList, c.argTypes.toList with
      | [x, y], [t, _] => M.on (valA P fr x) fun a => M.on (valA P fr y) fun b => unsK P M t a b h fun v h => k (.v v) h
      | _, _ => M.fail
    | _ => opK P loc M o fr k h
  | _ => opK P loc M o fr k h

variable {R : A → A → Prop} {M : Mach A}

theorem on_le (hf : ∀ x, R M.fail x) {α : Type} {x : Option α} {f g : α → A} (h : ∀ a, x = some a → R (f a) (g a)) : R (M.on x f) (M.on x g) := by
  cases x with
  | none => exact hf _
  | some a => exact h a rfl

theorem subK_le (hf : ∀ x, R M.fail x) {t : TypeId} {x : Value} {lo hi : Option Value} {k l : Value → A} (hk : ∀ y, R (k y) (l y)) : R (subK P M t x lo hi k) (M.on (subA P t x lo hi) l) := by
  unfold subK
  split
  · rename_i s hu
    split
    · rename_i p hp
      obtain ⟨p1, p2⟩ := p
      cases p1 with
      | false => exact hf _
      | true =>
        have := boundsB_eq hp
        simp only [subA, hu, this, Option.bind_some, Mach.on, cond_true]
        exact hk _
    · exact hf _
  · rename_i e b off n sz hu
    split
    · rename_i size hs
      split
      · rename_i p hp
        obtain ⟨p1, p2⟩ := p
        cases p1 with
        | false => exact hf _
        | true =>
          have := boundsB_eq hp
          cases hc : (sz == size || n == 0) with
          | false => simp only [cond_true, cond_false]; exact hf _
          | true =>
            simp only [subA, hu, hs, this, Option.bind_some, hc, cond_true, Mach.on]
            exact hk _
      · exact hf _
    · exact hf _
  · exact on_le hf fun _ _ => hk _

theorem subArrK_le (hf : ∀ x, R M.fail x) {t : TypeId} {b off : Nat} {lo hi : Option Value} {h : AHeap} {k l : Value → A} (hk : ∀ y, R (k y) (l y)) : R (subArrK P M t b off lo hi h k) (M.on (subArr P t b off lo hi h) l) := by
  unfold subArrK
  split
  · rename_i n e hu
    split
    · rename_i size hs
      split
      · rename_i p hp
        obtain ⟨p1, p2⟩ := p
        cases p1 with
        | false => exact hf _
        | true =>
          have hb := boundsB_eq hp
          simp only [cond_true]
          split
          · rename_i cs rw hg
            cases hc : (Nat.ble (off + n * size) cs.length && Nat.blt 0 size) with
            | false => exact hf _
            | true =>
              simp only [subArr, hu, hs, hb, Option.bind_some, hg, hc, cond_true, Mach.on]
              exact hk _
          · exact hf _
      · exact hf _
    · exact hf _
  · exact hf _
theorem copyK_le (hf : ∀ x, R M.fail x) {t : TypeId} {d x : Value} {h : AHeap} {k l : Value → AHeap → A} (hk : ∀ y h, R (k y h) (l y h)) : R (copyK P M t d x h k) (M.on (copyA P t d x h) fun p => l p.1 p.2) := by
  unfold copyK
  split
  · rename_i e b off n sz s hu
    split
    · rename_i size hs
      cases hso : sourceA h size (.string s) with
      | none => exact hf _
      | some new =>
        simp only [Mach.on]
        split
        · rename_i cs hg
          cases hc : (Nat.ble (off + n * size) cs.length && Nat.ble (Nat.min s.size n * size) new.length) with
          | false => exact hf _
          | true =>
            have hr : copyA P t (.slice (some ⟨b, off, none⟩) n sz) (.string s) h = some (.int .i64 (Nat.min s.size n), h.put b (.cells (splice cs off (new.take (Nat.min s.size n * size))) true)) := by
              simp only [copyA, hu, hs, hso, countA, Option.bind_some, hg, hc, cond_true]
            rw [hr]
            exact hk _ _
        · exact hf _
    · exact hf _
  · exact on_le hf fun _ _ => hk _ _
theorem clearK_le (hf : ∀ x, R M.fail x) {t : TypeId} {d : Value} {h : AHeap} {k l : AHeap → A} (hk : ∀ y, R (k y) (l y)) : R (clearK P M t d h k) (M.on (clearA P t d h) l) := by
  unfold clearK
  split
  · rename_i e b off n sz hu
    cases hn : Nat.beq n 0 with
    | true =>
      have := Nat.eq_of_beq_eq_true hn
      subst this
      simp only [clearA, hu, Mach.on, cond_true]
      exact hk _
    | false =>
      simp only [cond_false]
      split
      · rename_i z hz
        split
        · rename_i cs hg
          cases hc : Nat.ble (off + n * z.length) cs.length with
          | false => exact hf _
          | true =>
            cases n with
            | zero => simp at hn
            | succ n =>
              simp only [clearA, hu, hz, Option.bind_some, hg, hc, cond_true, Mach.on]
              exact hk _
        · exact hf _
      · exact hf _
  · exact on_le hf fun _ _ => hk _

theorem appendK_le (hf : ∀ x, R M.fail x) {t xt : TypeId} {s x : Value} {h : AHeap} {k l : Value → AHeap → A} (hk : ∀ y h, R (k y h) (l y h)) : R (appendK P M t xt s x h k) (M.on (appendA P t xt s x h) fun p => l p.1 p.2) := by
  unfold appendK
  split
  · rename_i e xd hu hxu
    cases hsd : srcD xd with
    | false => exact hf _
    | true =>
      simp only [Bool.not_true, cond_false]
      split
      · rename_i size bytes m hs hb hm
        cases hm0 : Nat.beq m 0 with
        | true =>
          have := Nat.eq_of_beq_eq_true hm0
          subst this
          simp only [cond_true]
          split
          · simp only [appendA, hu, hxu, hsd, hs, hb, hm, Bool.not_true, cond_false, Option.bind_some, Mach.on]
            exact hk _ _
          · exact hf _
        | false =>
          obtain ⟨m, rfl⟩ : ∃ k, m = k + 1 := by cases m with
            | zero => simp at hm0
            | succ m => exact ⟨m, rfl⟩
          simp only [cond_false]
          cases hz : (Nat.blt 0 bytes && zeroOk P e size && Nat.blt 0 size) with
          | false => exact hf _
          | true =>
            simp only [Bool.and_eq_true] at hz
            obtain ⟨⟨hz1, hz2⟩, hz3⟩ := hz
            obtain ⟨size, rfl⟩ : ∃ k, size = k + 1 := by cases size with
              | zero => simp [Nat.blt] at hz3
              | succ m => exact ⟨m, rfl⟩
            simp only [Bool.not_true, cond_false]
            have key : ∀ new, sourceA h (size + 1) x = some new → R (match s with
                | .slice none n sz => bif Nat.beq n 0 && Nat.beq sz 0 then (bif room (m + 1) bytes then k (.slice (some ⟨h.next, 0, none⟩) (m + 1) (size + 1)) ((h.new (.cells new true)).typ h.next e) else M.fail) else M.fail
                | .slice (some ⟨b, off, none⟩) n sz => bif Nat.beq sz 0 then (bif Nat.beq n 0 then (bif room (m + 1) bytes then k (.slice (some ⟨h.next, 0, none⟩) (m + 1) (size + 1)) ((h.new (.cells new true)).typ h.next e) else M.fail) else M.fail) else
                  match h.get b with
                  | some (.cells cs true) => bif Nat.beq sz (size + 1) then (bif room (n + (m + 1)) bytes then (bif Nat.ble (off + n * (size + 1)) cs.length then
                      k (.slice (some ⟨h.next, 0, none⟩) (n + (m + 1)) (size + 1)) (AHeap.typIf (Nat.beq off 0 && h.tyOf b e) ((h.del b).new (.cells ((cs.drop off).take (n * (size + 1)) ++ new) true)) h.next e) else M.fail) else M.fail) else M.fail
                  | _ => M.fail
                | _ => M.fail) (M.on (appendA P t xt s x h) fun p => l p.1 p.2) := by
              intro new hnew
              have e0 : ∀ s, appendA P t xt s x h = (match s with
                | .slice none 0 0 => bif room (m + 1) bytes then some (.slice (some ⟨h.next, 0, none⟩) (m + 1) (size + 1), (h.new (.cells new true)).typ h.next e) else none
                | .slice (some ⟨_, _, none⟩) 0 0 => bif room (m + 1) bytes then some (.slice (some ⟨h.next, 0, none⟩) (m + 1) (size + 1), (h.new (.cells new true)).typ h.next e) else none
                | .slice (some ⟨b, off, none⟩) n sz => match h.get b with
                  | some (.cells cs true) =>
                    bif room (n + (m + 1)) bytes && sz == size + 1 && Nat.ble (off + n * (size + 1)) cs.length then
                      some (.slice (some ⟨h.next, 0, none⟩) (n + (m + 1)) (size + 1), AHeap.typIf (Nat.beq off 0 && h.tyOf b e) ((h.del b).new (.cells ((cs.drop off).take (n * (size + 1)) ++ new) true)) h.next e)
                    else none
                  | _ => none
                | _ => none) := by
                intro s
                simp only [appendA, hu, hxu, hsd, hs, hb, hm, hz1, hz2, hnew, Bool.not_true, cond_false, Option.bind_some, Bool.and_self]
                rfl
              rw [e0]
              split
              · rename_i n sz
                cases hc : (Nat.beq n 0 && Nat.beq sz 0) with
                | false => exact hf _
                | true =>
                  simp only [Bool.and_eq_true] at hc
                  have h1 := Nat.eq_of_beq_eq_true hc.1
                  have h2 := Nat.eq_of_beq_eq_true hc.2
                  subst h1 h2
                  cases hr : room (m + 1) bytes with
                  | false => exact hf _
                  | true => simp only [cond_true, Mach.on]; exact hk _ _
              · rename_i b off n sz
                cases hc2 : Nat.beq sz 0 with
                | true =>
                  have h2 := Nat.eq_of_beq_eq_true hc2
                  subst h2
                  cases hc1 : Nat.beq n 0 with
                  | false => exact hf _
                  | true =>
                    have h1 := Nat.eq_of_beq_eq_true hc1
                    subst h1
                    cases hr : room (m + 1) bytes with
                    | false => exact hf _
                    | true => simp only [cond_true, Mach.on]; exact hk _ _
                | false =>
                  simp only [cond_false]
                  split
                  · rename_i cs hg
                    cases q1 : Nat.beq sz (size + 1) with
                    | false => exact hf _
                    | true =>
                      have h2 := Nat.eq_of_beq_eq_true q1
                      subst h2
                      cases q2 : room (n + (m + 1)) bytes with
                      | false => exact hf _
                      | true =>
                        cases q3 : Nat.ble (off + n * (size + 1)) cs.length with
                        | false => exact hf _
                        | true =>
                          simp only [cond_true, beq_self_eq_true, Bool.and_self, hg, q2, q3, Mach.on]
                          exact hk _ _
                  · exact hf _
              · exact hf _
            split
            · rename_i b off n sz'
              simp only [countA, Option.some.injEq] at hm
              subst hm
              split
              · rename_i cs rw hg
                cases hc : Nat.ble (off + (m + 1) * (size + 1)) cs.length with
                | false => exact hf _
                | true => exact key _ (by simp only [sourceA, hg, hc, cond_true])
              · exact hf _
            · rename_i str
              cases hc : (size + 1 == 1) with
              | false => exact hf _
              | true => exact key _ (by simp only [sourceA, hc, cond_true])
            · exact hf _
      · exact hf _
  · exact hf _

theorem unsK_le (hf : ∀ x, R M.fail x) {pt : TypeId} {a n : Value} {h : AHeap} {k l : Value → AHeap → A} (hk : ∀ y h, R (k y h) (l y h)) : R (unsK P M pt a n h k) (M.on (unsStr P pt a n h) fun p => l p.1 p.2) := by
  unfold unsK
  split
  · rename_i b n
    split
    · rename_i e cs hu hb
      cases h1 : (h.tyOf b e && Nat.beq (P.cellsOf e) 1) with
      | false => exact hf _
      | true =>
        cases h2 : (decide (0 < n) && decide (n ≤ 1099511627776) && Nat.ble n.toNat cs.length && (cs.take n.toNat).all isU8) with
        | false => exact hf _
        | true =>
          simp only [Bool.and_eq_true] at h1 h2
          obtain ⟨⟨⟨q1, q2⟩, q3⟩, q4⟩ := h2
          simp only [cond_true, unsStr, hu, hb, q1, q2, q3, h1.1, h1.2, Bool.and_self, bytesOf_all q4, Option.map_some, Mach.on]
          exact hk _ _
    · exact hf _
  · exact on_le hf fun _ _ => hk _ _
theorem sdK_le (hf : ∀ x, R M.fail x) {a : Value} {k l : Value → A} (hk : ∀ y, R (k y) (l y)) : R (sdK M a k) (M.on (sliceDataA a) l) := by
  unfold sdK
  split
  · rename_i b off n sz
    cases n with
    | zero => exact hf _
    | succ n => exact hk _
  · exact on_le hf fun _ _ => hk _
theorem convK_le (hf : ∀ x, R M.fail x) {src dst : TypeId} {a : Value} {h : AHeap} {k l : Value → A} (hk : ∀ y, R (k y) (l y)) : R (convK P M src dst a h k) (M.on (convH P src dst a h) l) := by
  unfold convK
  split
  · rename_i e hs hd
    split
    · rename_i b off n sz he
      split
      · rename_i cs rw hb
        cases n with
        | zero =>
          have : Nat.beq 0 0 = true := rfl
          simp only [this, cond_true, convH, hs, hd, bytesStr, he, Mach.on]
          exact hk _
        | succ n =>
          have hn : Nat.beq (n + 1) 0 = false := rfl
          simp only [hn, cond_false]
          cases h2 : (Nat.beq sz 1 && Nat.ble (off + (n + 1)) cs.length && ((cs.drop off).take (n + 1)).all isU8) with
          | false => exact hf _
          | true =>
            simp only [Bool.and_eq_true] at h2
            obtain ⟨⟨q1, q2⟩, q3⟩ := h2
            simp only [cond_true, convH, hs, hd, bytesStr, he, hb, q1, q2, Bool.and_self, bytesOf_all q3, Option.map_some, Mach.on]
            exact hk _
      · exact on_le hf fun _ _ => hk _
    · exact on_le hf fun _ _ => hk _
  · exact on_le hf fun _ _ => hk _
theorem strAt_eq {s : ByteArray} {i : Int} (h0 : 0 ≤ i) (h1 : i < s.size) : strAt s i = some (.int .u8 (byteI s i)) := by
  have hlt : i.toNat < s.data.size := by
    have : s.size = s.data.size := rfl
    omega
  unfold strAt byteI
  rw [decide_eq_true h0, cond_true]
  have e1 : s[i.toNat]? = some s.data[i.toNat] := by
    have : i.toNat < s.size := hlt
    rw [getElem?_pos s i.toNat this]; rfl
  rw [e1, Option.bind_some]
  have : s.data.toList.getD i.toNat 0 = s.data[i.toNat] := by
    rw [List.getD_eq_getElem?_getD, Array.getElem?_toList, Array.getElem?_eq_getElem hlt]; rfl
  rw [this]
theorem indexK_le (hf : ∀ x, R M.fail x) {t : TypeId} {x i : Value} {k l : Value → A} (hk : ∀ y, R (k y) (l y)) : R (indexK P M t x i k) (M.on (indexA P t x i) l) := by
  unfold indexK
  split
  · rename_i s kk i hu
    cases h2 : (decide (0 ≤ i) && decide (i < (s.size : Int))) with
    | false => exact hf _
    | true =>
      simp only [Bool.and_eq_true, decide_eq_true_eq] at h2
      simp only [cond_true, indexA, hu, strAt_eq h2.1 h2.2, Mach.on]
      exact hk _
  · rename_i n e cs kk i hu
    split
    · rename_i sz hs
      split
      · rename_i p hp
        obtain ⟨p1, p2⟩ := p
        cases h2 : (decide (0 ≤ i) && decide (i < (n : Int))) with
        | false => exact hf _
        | true =>
          cases p1 with
          | false => exact hf _
          | true =>
            have h3 : partA P e cs.toList (i.toNat * sz) = some p2 := readT_ok hp
            simp only [cond_true, indexA, hu, hs, Option.bind_some, h2, h3, Mach.on]
            exact hk _
      · exact on_le hf fun _ _ => hk _
    · exact hf _
  · exact on_le hf fun _ _ => hk _

theorem opK2_le (hf : ∀ x, R M.fail x) (hM : MRel0 R M M) {o : Oper} {fr : List AV} {k l : AV → AHeap → A} {h : AHeap} (hk : ∀ x h, R (k x h) (l x h)) : R (opK2 P loc M o fr k h) (opK P loc M o fr l h) := by
  have dflt : R (opK P loc M o fr k h) (opK P loc M o fr l h) := opK_rel hM hk
  obtain ⟨dst, op, ty, pos, after, guard⟩ := o
  unfold opK2
  split
  · rename_i t a hop
    simp only at hop
    subst hop
    simp only [opK]
    refine on_le hf fun lc _ => on_le hf fun cs _ => ?_
    split
    · rename_i p hp
      obtain ⟨p1, p2⟩ := p
      cases p1 with
      | false => exact hf _
      | true => rw [readT_ok hp]; exact hk _ _
    · exact on_le hf fun _ _ => hk _ _
  · rename_i t x i hop
    simp only at hop
    subst hop
    simp only [opK]
    refine on_le hf fun j _ => ?_
    cases isArr P t with
    | true =>
      refine on_le hf fun lc _ => ?_
      split
      · rename_i n e kk i hu _
        split
        · rename_i size hs
          cases hc : (decide (0 ≤ i) && decide (i < (n : Int))) with
          | false => exact hf _
          | true => simp only [elemOff, hu, hs, Option.bind_some, hc, cond_true, Mach.on]; exact hk _ _
        · exact hf _
      · exact hf _
    | false =>
      refine on_le hf fun a _ => ?_
      split
      · rename_i e b off n sz kk i hu _ _
        split
        · rename_i size hs
          cases hc : (decide (0 ≤ i) && decide (i < (n : Int))) with
          | false => exact hf _
          | true => simp only [elemAddr, hu, hs, Option.bind_some, hc, cond_true, Mach.on]; exact hk _ _
        · exact hf _
      · exact hf _
  · rename_i t m kk ok hop
    simp only at hop
    subst hop
    simp only [opK]
    refine on_le hf fun a _ => on_le hf fun b _ => on_le hf fun p _ => on_le hf fun z _ => ?_
    cases p.2.2.all fun e => isKeyD p.2.1 e.1 with
    | false => exact hf _
    | true =>
      simp only [cond_true]
      split
      · rename_i d hd
        split
        · rename_i q hq
          obtain ⟨g1, g2⟩ := hasK_get (k := b) (es := p.2.2)
          cases hh : hasK b p.2.2 with
          | false => rw [g1 hh]; exact hk _ _
          | true =>
            obtain ⟨q1, q2⟩ := q
            cases q1 with
            | false => exact hf _
            | true => rw [readD_ok hq]; exact hk _ _
        · exact hf _
      · exact hf _
  · rename_i t x lo hi mx hop
    simp only at hop
    subst hop
    split
    · exact hf _
    · cases ha : isArr P t with
      | true =>
        simp only [cond_true]
        simp only [opK, ha, cond_true]
        refine on_le hf fun _ _ => on_le hf fun _ _ => ?_
        split
        · rename_i b off hl
          rw [hl]
          exact subArrK_le hf fun _ => hk _ _
        · exact hf _
      | false =>
        simp only [cond_false]
        simp only [opK, ha, cond_false]
        exact on_le hf fun _ _ => on_le hf fun _ _ => on_le hf fun _ _ => subK_le hf fun _ => hk _ _
  · rename_i t ll c hop
    simp only at hop
    subst hop
    simp only [opK]
    refine on_le hf fun x _ => on_le hf fun y _ => ?_
    split
    · rename_i e k1 l1 k2 c1 hu _ _
      split
      · rename_i bytes size z h1 h2 h3
        simp only [hu, h1, h2, h3]
        cases q1 : (size == z.length && Nat.blt 0 size) with
        | false => exact hf _
        | true =>
          cases q2 : (decide (0 ≤ l1) && decide (l1 ≤ c1) && decide (c1 ≤ 1099511627776) && room c1.toNat bytes) with
          | false => exact hf _
          | true =>
            simp only [Bool.and_eq_true] at q1
            simp only [cond_true, Bool.and_self, q1.1, q1.2]
            exact hk _ _
      · exact hf _
    · exact hf _
  · rename_i op t x y cm hop
    simp only at hop
    subst hop
    simp only [opK]
    refine on_le hf fun a _ => on_le hf fun b _ => ?_
    split
    · rename_i p hp
      obtain ⟨p1, p2⟩ := p
      cases p1 with
      | false => exact hf _
      | true =>
        unfold isNilCmp at hp
        split at hp
        · rename_i aa n sz n' sz'
          split at hp
          · rename_i e hu
            simp only [Option.some.injEq, Prod.mk.injEq] at hp
            obtain ⟨h1, rfl⟩ := hp
            simp only [divA, binA, plainD, Bool.false_and, cond_false, nilEq, hu, h1, cond_true, Option.bind_some, Mach.on]
            exact hk _ _
          · rename_i e hu
            simp only [Option.some.injEq, Prod.mk.injEq] at hp
            obtain ⟨h1, rfl⟩ := hp
            simp only [divA, binA, plainD, Bool.false_and, cond_false, nilEq, hu, h1, cond_true, Option.bind_some, Mach.on, Bool.not_false]
            exact hk _ _
          · simp at hp
        · simp at hp
    · split
      · rename_i p hp
        obtain ⟨p1, p2⟩ := p
        obtain ⟨rfl, rfl, rfl⟩ := addS_some hp
        simp only
        cases hc : Nat.ble (p1.size + p2.size) 1099511627776 with
        | false => exact hf _
        | true =>
          have h1 : bin2 P .add t (.string p1) (.string p2) = some (strV (p1.data.toList ++ p2.data.toList)) := by simp only [bin2, hc, cond_true]
          simp only [divA, h1, cond_true]
          exact hk _ _
      · cases hdv : divA op a b with
        | some p =>
          obtain ⟨p1, p2⟩ := p
          cases p1 with
          | true => exact hf _
          | false => exact hk _ _
        | none =>
          simp only
          cases bin2 P op t a b with
          | some z => exact hk _ _
          | none => exact on_le hf fun _ _ => hk _ _
  · rename_i src dst x hop
    simp only at hop
    subst hop
    simp only [opK]
    exact on_le hf fun _ _ => convK_le hf fun _ => hk _ _
  · rename_i t x i hop
    simp only at hop
    subst hop
    simp only [opK]
    exact on_le hf fun _ _ => on_le hf fun _ _ => indexK_le hf fun _ => hk _ _
  · rename_i c hop
    simp only at hop
    subst hop
    split
    · rename_i hc
      split
      · rename_i x y t u hx hy
        simp only [opK, hc, hx, hy]
        exact on_le hf fun _ _ => on_le hf fun _ _ => appendK_le hf fun _ _ => hk _ _
      · exact hf _
    · rename_i hc
      split
      · rename_i x y t u hx hy
        simp only [opK, hc, hx, hy]
        exact on_le hf fun _ _ => on_le hf fun _ _ => copyK_le hf fun _ _ => hk _ _
      · exact hf _
    · rename_i hc
      split
      · rename_i x t hx hy
        simp only [opK, hc, hx, hy]
        exact on_le hf fun _ _ => clearK_le hf fun _ => hk _ _
      · exact hf _
    · rename_i hc
      split
      · rename_i x hx
        simp only [opK, hc, hx]
        exact on_le hf fun _ _ => sdK_le hf fun _ => hk _ _
      · exact hf _
    · rename_i hc
      split
      · rename_i x y t u hx hy
        simp only [opK, hc, hx, hy]
        exact on_le hf fun _ _ => on_le hf fun _ _ => unsK_le hf fun _ _ => hk _ _
      · exact hf _
    · exact dflt
  · exact dflt

end Go.Agm
