/- An abstract machine for one goroutine: how its values stand to the model's. No condition. -/
import Derived.Test.YtkjdfkodclednaaDoorA4
import Derived.Laws.Cells
import Derived.Laws.CopyRow
import Derived.Laws.IdiomCopy
import Derived.Laws.Append
import Derived.MapKept
namespace Go.Agm

abbrev MapN := Nat → Option (Nat × Nat)

mutual
inductive V (m : MapN) (S : Nat → Nat) : Value → Value → Prop
  | bool (b : Bool) : V m S (.bool b) (.bool b)
  | int (k : IntKind) (n : Int) : V m S (.int k n) (.int k n)
  | str (s : ByteArray) : V m S (.string s) (.string s)
  | pnil : V m S (.pointer none) (.pointer none)
  | ptr {b off B base : Nat} (h : m b = some (B, base)) : V m S (.pointer (some ⟨b, off, none⟩)) (.pointer (some ⟨B, base + off, none⟩))
  | snil : V m S (.slice none 0 0) (.slice none 0 0)
  | slice {b off n sz B base c : Nat} (h : m b = some (B, base)) (hn : n ≤ c) (hz : 0 < sz) (hc : base + off + c * sz ≤ S B) : V m S (.slice (some ⟨b, off, none⟩) n sz) (.slice (some ⟨B, base + off, none⟩) n c)
  | sempty {a a' : Addr} {sz : Nat} : V m S (.slice (some a) 0 sz) (.slice (some a') 0 0)
  | sghost {a : Addr} {sz : Nat} (hz : 0 < sz) : V m S (.slice (some a) 0 sz) (.slice none 0 0)
  | junk {y : Value} (h : one y = true) : V m S (.chan none) y
  | mnil : V m S (.map none) (.map none)
  | map {b B : Nat} (h : m b = some (B, 0)) : V m S (.map (some b)) (.map (some B))
  | fnil : V m S .nilFunc .nilFunc
  | inil : V m S .nilIface .nilIface
  | func {fn : Fn} {xs ys us vs : Array Value} (h : VL m S xs.toList us.toList) (h' : VL m S ys.toList vs.toList) : V m S (.func fn xs ys) (.func fn us vs)
  | iface {t : TypeId} {x y : Value} (h : V m S x y) : V m S (.iface t x) (.iface t y)
  | agg {xs ys : Array Value} (h : VL m S xs.toList ys.toList) (ho : ∀ x ∈ xs.toList, one x = true) : V m S (.agg xs) (.agg ys)
inductive VL (m : MapN) (S : Nat → Nat) : List Value → List Value → Prop
  | nil : VL m S [] []
  | cons {x y : Value} {xs ys : List Value} (h : V m S x y) (t : VL m S xs ys) : VL m S (x :: xs) (y :: ys)
end

def MLe (m m' : MapN) : Prop := ∀ b x, m b = some x → m' b = some x
def SLe (S S' : Nat → Nat) : Prop := ∀ B, S B ≤ S' B

variable {m m' : MapN} {S S' : Nat → Nat}

mutual
theorem V.mono (hm : MLe m m') (hs : SLe S S') : ∀ {x y : Value}, V m S x y → V m' S' x y
  | _, _, .bool b => .bool b
  | _, _, .int k n => .int k n
  | _, _, .str s => .str s
  | _, _, .pnil => .pnil
  | _, _, .ptr h => .ptr (hm _ _ h)
  | _, _, .snil => .snil
  | _, _, .slice (B := B) h hn hz hc => .slice (hm _ _ h) hn hz (Nat.le_trans hc (hs B))
  | _, _, .sempty => .sempty
  | _, _, .sghost hz => .sghost hz
  | _, _, .junk h => .junk h
  | _, _, .mnil => .mnil
  | _, _, .map h => .map (hm _ _ h)
  | _, _, .fnil => .fnil
  | _, _, .inil => .inil
  | _, _, .func h h' => .func (VL.mono hm hs h) (VL.mono hm hs h')
  | _, _, .iface h => .iface (V.mono hm hs h)
  | _, _, .agg h ho => .agg (VL.mono hm hs h) ho
theorem VL.mono (hm : MLe m m') (hs : SLe S S') : ∀ {xs ys : List Value}, VL m S xs ys → VL m' S' xs ys
  | _, _, .nil => .nil
  | _, _, .cons h t => .cons (V.mono hm hs h) (VL.mono hm hs t)
end

theorem VL.length {xs ys : List Value} (h : VL m S xs ys) : ys.length = xs.length := by
  induction xs generalizing ys with
  | nil => cases h; rfl
  | cons x xs ih => cases h with | cons h t => simp [ih t]

theorem VL.get {xs ys : List Value} (h : VL m S xs ys) {i : Nat} {x : Value} (hx : xs[i]? = some x) : ∃ y, ys[i]? = some y ∧ V m S x y := by
  induction xs generalizing ys i with
  | nil => simp at hx
  | cons a xs ih =>
    cases h with
    | cons h t =>
      cases i with
      | zero => simp at hx; subst hx; exact ⟨_, rfl, h⟩
      | succ i => simpa using ih t (by simpa using hx)

theorem VL.of_get {xs ys : List Value} (hl : ys.length = xs.length) (h : ∀ (i : Nat) x, xs[i]? = some x → ∃ y, ys[i]? = some y ∧ V m S x y) : VL m S xs ys := by
  induction xs generalizing ys with
  | nil => cases ys with
    | nil => exact .nil
    | cons => simp at hl
  | cons a xs ih =>
    cases ys with
    | nil => simp at hl
    | cons b ys =>
      obtain ⟨y, hy, hv⟩ := h 0 a rfl
      simp at hy; subst hy
      exact .cons hv (ih (by simpa using hl) fun i x hx => by simpa using h (i + 1) x (by simpa using hx))

theorem VL.append {xs ys us vs : List Value} (h : VL m S xs ys) (h' : VL m S us vs) : VL m S (xs ++ us) (ys ++ vs) := by
  induction xs generalizing ys with
  | nil => cases h; exact h'
  | cons x xs ih => cases h with | cons h t => exact .cons h (ih t)

theorem VL.take {xs ys : List Value} (n : Nat) (h : VL m S xs ys) : VL m S (xs.take n) (ys.take n) := by
  induction xs generalizing ys n with
  | nil => cases h; simp; exact .nil
  | cons x xs ih => cases h with | cons h t => cases n with
    | zero => exact .nil
    | succ n => exact .cons h (ih n t)

theorem VL.drop {xs ys : List Value} (n : Nat) (h : VL m S xs ys) : VL m S (xs.drop n) (ys.drop n) := by
  induction xs generalizing ys n with
  | nil => cases h; simp; exact .nil
  | cons x xs ih => cases h with | cons h t => cases n with
    | zero => exact .cons h t
    | succ n => simpa using ih n t

theorem V.one_eq {x y : Value} (h : V m S x y) : one y = one x := by
  cases h <;> first
    | rfl
    | assumption

theorem VL.one_all {xs ys : List Value} (h : VL m S xs ys) (ho : ∀ x ∈ xs, one x = true) : ∀ y ∈ ys, one y = true := by
  induction xs generalizing ys with
  | nil => cases h; simp
  | cons x xs ih =>
    cases h with
    | cons h t =>
      intro y hy
      rcases List.mem_cons.1 hy with rfl | hy
      · rw [h.one_eq]; exact ho x (by simp)
      · exact ih t (fun z hz => ho z (by simp [hz])) y hy

/-- The cells of a value. -/
theorem V.cells {x y : Value} (h : V m S x y) : VL m S x.cells.toList y.cells.toList ∧ ∀ z ∈ x.cells.toList, one z = true := by
  cases h with
  | agg h ho => exact ⟨h, ho⟩
  | junk hy =>
    have hc : y.cells = #[y] := by cases y <;> first | rfl | simp [one] at hy
    rw [hc]
    exact ⟨.cons (.junk hy) .nil, by intro z hz; simp [Value.cells] at hz; subst hz; rfl⟩
  | _ =>
    refine ⟨.cons ?_ .nil, ?_⟩
    · constructor <;> assumption
    · intro z hz; simp [Value.cells] at hz; subst hz; rfl

theorem V.cells_size {x y : Value} (h : V m S x y) : y.cells.size = x.cells.size := by
  have := h.cells.1.length
  simpa using this

mutual
theorem V.plain : ∀ (n : Nat) {x y : Value}, V m S x y → plainD n x = true → y = x
  | _, _, _, .bool _, _ => rfl
  | _, _, _, .int _ _, _ => rfl
  | _, _, _, .str _, _ => rfl
  | _, _, _, .pnil, _ => rfl
  | n, _, _, .ptr _, h => by cases n <;> simp [plainD] at h
  | _, _, _, .snil, _ => rfl
  | n, _, _, .slice _ _ _ _, h => by cases n <;> simp [plainD] at h
  | n, _, _, .sempty, h => by cases n <;> simp [plainD] at h
  | n, _, _, .sghost _, h => by cases n <;> simp [plainD] at h
  | n, _, _, .junk _, h => by cases n <;> simp [plainD] at h
  | _, _, _, .mnil, _ => rfl
  | n, _, _, .map _, h => by cases n <;> simp [plainD] at h
  | _, _, _, .fnil, _ => rfl
  | _, _, _, .inil, _ => rfl
  | n, _, _, .func _ _, h => by cases n <;> simp [plainD] at h
  | 0, _, _, .iface _, h => by simp [plainD] at h
  | n + 1, _, _, .iface hv, h => by
    have := V.plain n hv (by simpa [plainD] using h)
    rw [this]
  | 0, _, _, .agg _ _, h => by simp [plainD] at h
  | n + 1, _, _, .agg hl _, h => by
    have := VL.plain n hl (by simp only [plainD, Bool.and_eq_true, List.all_eq_true] at h; exact h.1)
    rw [Array.toList_inj] at this
    rw [this]
theorem VL.plain : ∀ (n : Nat) {xs ys : List Value}, VL m S xs ys → (∀ x ∈ xs, plainD n x = true) → ys = xs
  | _, _, _, .nil, _ => rfl
  | n, _, _, .cons hv ht, h => by
    rw [V.plain n hv (h _ (by simp)), VL.plain n ht (fun x hx => h x (by simp [hx]))]
end

theorem V.of_plain (n : Nat) : ∀ {x : Value}, plainD n x = true → V m S x x := by
  induction n with
  | zero =>
    intro x h
    match x, h with
    | .bool _, _ => exact .bool _
    | .int _ _, _ => exact .int _ _
    | .string _, _ => exact .str _
    | .pointer none, _ => exact .pnil
    | .slice none 0 0, _ => exact .snil
    | .map none, _ => exact .mnil
    | .nilFunc, _ => exact .fnil
    | .nilIface, _ => exact .inil
  | succ n ih =>
    intro x h
    match x, h with
    | .bool _, _ => exact .bool _
    | .int _ _, _ => exact .int _ _
    | .string _, _ => exact .str _
    | .pointer none, _ => exact .pnil
    | .slice none 0 0, _ => exact .snil
    | .map none, _ => exact .mnil
    | .nilFunc, _ => exact .fnil
    | .nilIface, _ => exact .inil
    | .iface t v, h => exact .iface (ih (by simpa [plainD] using h))
    | .agg cs, h =>
      simp only [plainD, Bool.and_eq_true, List.all_eq_true] at h
      refine .agg (.of_get rfl fun _ x hx => ⟨x, hx, ih (h.1 x (List.mem_of_getElem? hx))⟩) h.2

theorem VL.of_plain (n : Nat) {xs : List Value} (h : ∀ x ∈ xs, plainD n x = true) : VL m S xs xs :=
  .of_get rfl fun _ x hx => ⟨x, hx, V.of_plain n (h x (List.mem_of_getElem? hx))⟩

/-! The heap. -/

def szB (w : World) (B : Nat) : Nat := match w.heap[B]? with
  | some (.cells C _ _) => C.size
  | _ => 0

/-- The cells of a row from a place on. -/
def VAt (m : MapN) (S : Nat → Nat) (cs : List Value) (C : Array Value) (base : Nat) : Prop :=
  base + cs.length ≤ C.size ∧ (∀ x ∈ cs, one x = true) ∧ VL m S cs ((C.toList.drop base).take cs.length)

def Free (C : Array Value) (fz : Nat × Nat) : Prop := ∀ i, i < C.size → ¬ (fz.1 ≤ i ∧ i < fz.2)

/-- What a name's block holds is of a type. -/
def TyAt (m : MapN) (w : World) (b : Nat) (t : TypeId) : Prop := ∃ B C fz, m b = some (B, 0) ∧ w.heap[B]? = some (.cells C t fz)

structure HRel (P : Program) (w0 : World) (m : MapN) (E : Nat → Prop) (h : AHeap) (w : World) : Prop where
  base : RowKit.Below w0.heap.size w0 w
  out : ∀ B, B < w0.heap.size → E B
  ext : ∀ B, E B → B < w.heap.size
  glob : ∀ g, g < P.globals.size → m g = some (g, 0)
  lt : ∀ b B bs, m b = some (B, bs) → B < w.heap.size ∧ b < h.next
  dom : ∀ b x, h.get b = some x → b < h.next
  cells : ∀ b cs rw, h.get b = some (.cells cs rw) → (cs = [] ∧ rw = true ∧ m b = none) ∨ ∃ B bs C el fz, m b = some (B, bs) ∧ w.heap[B]? = some (.cells C el fz) ∧ VAt m (szB w) cs C bs ∧ (rw = true → ¬ E B ∧ Free C fz) ∧ (rw = false → B < w0.heap.size)
  maps : ∀ b es, h.get b = some (.map es) → ∃ B en cl, m b = some (B, 0) ∧ w.heap[B]? = some (.map en cl) ∧ ¬ E B ∧ VL m (szB w) (es.map (·.1)) (en.toList.map (·.key)) ∧ VL m (szB w) (es.map (·.2)) (en.toList.map (·.val)) ∧ MapKept.Stamped en cl
  inj : ∀ b b' x x' B bs bs', h.get b = some x → h.get b' = some x' → m b = some (B, bs) → m b' = some (B, bs') → x.own = true → b = b'
  ty : ∀ b t, (b, t) ∈ h.ty → TyAt m w b t

/-- A block that is named. -/
theorem HRel.cellsM {P : Program} {w0 : World} {m : MapN} {E : Nat → Prop} {h : AHeap} {w : World} (hr : HRel P w0 m E h w) {b : Nat} {cs : List Value} {rw : Bool} (e : h.get b = some (.cells cs rw)) {B bs : Nat} (hm : m b = some (B, bs)) :
    ∃ C el fz, w.heap[B]? = some (.cells C el fz) ∧ VAt m (szB w) cs C bs ∧ (rw = true → ¬ E B ∧ Free C fz) ∧ (rw = false → B < w0.heap.size) := by
  rcases hr.cells b cs rw e with ⟨_, _, hh⟩ | ⟨B', bs', C, el, fz, k1, k2⟩
  · rw [hh] at hm; simp at hm
  · rw [hm] at k1
    injection k1 with k1
    injection k1 with k3 k4
    subst k3 k4
    exact ⟨C, el, fz, k2⟩

/-- Behind a step: what is not to turn has not; rows keep their lengths. -/
structure Keep (E : Nat → Prop) (w w' : World) : Prop where
  os : w'.os = w.os
  tape : w'.tape = w.tape
  output : w'.output = w.output
  size : w.heap.size ≤ w'.heap.size
  block : ∀ B, E B → w'.heap[B]? = w.heap[B]?
  len : SLe (szB w) (szB w')

theorem Keep.refl (E : Nat → Prop) (w : World) : Keep E w w := ⟨rfl, rfl, rfl, Nat.le_refl _, fun _ _ => rfl, fun _ => Nat.le_refl _⟩
theorem Keep.trans {E : Nat → Prop} {a b c : World} (h : Keep E a b) (k : Keep E b c) : Keep E a c :=
  ⟨k.os.trans h.os, k.tape.trans h.tape, k.output.trans h.output, Nat.le_trans h.size k.size, fun B hB => (k.block B hB).trans (h.block B hB), fun B => Nat.le_trans (h.len B) (k.len B)⟩
theorem Keep.sub {E E' : Nat → Prop} {a b : World} (h : Keep E a b) (hE : ∀ B, E' B → E B) : Keep E' a b := ⟨h.os, h.tape, h.output, h.size, fun B hB => h.block B (hE B hB), h.len⟩

theorem Keep.below {E : Nat → Prop} {w0 w w' : World} (h : Keep E w w') (hb : RowKit.Below w0.heap.size w0 w) (ho : ∀ B, B < w0.heap.size → E B) : RowKit.Below w0.heap.size w0 w' :=
  ⟨h.os.trans hb.os, h.tape.trans hb.tape, h.output.trans hb.output, Nat.le_trans hb.size h.size, fun k hk => (h.block k (ho k hk)).trans (hb.block k hk)⟩

/-- A slot. -/
def AVR (m : MapN) (E : Nat → Prop) (h : AHeap) (w : World) (fr : List AV) (tmps : Array Value) (t : Value) : AV → Prop
  | .v x => V m (szB w) x t
  | .tup xs => ∃ vs : Array Value, t = .tuple vs ∧ VL m (szB w) xs vs.toList
  | .blk cs => ∃ B C el fz, t = .pointer (some ⟨B, 0, none⟩) ∧ w.heap[B]? = some (.cells C el fz) ∧ VAt m (szB w) cs C 0 ∧ Free C fz ∧ ¬ E B ∧ ∀ b x bs, h.get b = some x → m b ≠ some (B, bs)
  | .ref s off => ∀ cs, fr[s]? = some (.blk cs) → ∃ B, tmps.getD s undef = .pointer (some ⟨B, 0, none⟩) ∧ t = .pointer (some ⟨B, off, none⟩)
  | .dead => True

structure FRel (m : MapN) (E : Nat → Prop) (fr : List AV) (h : AHeap) (a : Act) (w : World) : Prop where
  defers : a.defers = []
  len : a.tmps.size = fr.length
  slot : ∀ i x, fr[i]? = some x → AVR m E h w fr a.tmps (a.tmps.getD i undef) x
  dis : ∀ i j cs cs' B, fr[i]? = some (.blk cs) → fr[j]? = some (.blk cs') → a.tmps.getD i undef = .pointer (some ⟨B, 0, none⟩) → a.tmps.getD j undef = .pointer (some ⟨B, 0, none⟩) → i = j

structure Rel (P : Program) (w0 : World) (m : MapN) (E : Nat → Prop) (fr : List AV) (h : AHeap) (a : Act) (w : World) : Prop where
  hr : HRel P w0 m E h w
  fr : FRel m E fr h a w

/-- A block that a frame's slot owns. -/
def LB (fr : List AV) (a : Act) (B : Nat) : Prop := ∃ i cs, fr[i]? = some (.blk cs) ∧ a.tmps.getD i undef = .pointer (some ⟨B, 0, none⟩)

end Go.Agm
