/- An abstract machine for one goroutine: what an operation looks at. No condition. -/
import Derived.Test.YtkjdfkodclednaaDoorA18
namespace Go.Agm

variable {P : Program} {fr fr2 : List AV} {h : AHeap} {c : Calls1} {loc : Nat → Bool} {r : Res}

/-- Answers of one operation. -/
def pairM (c : Calls1) : Mach (Option (AV × AHeap)) := { fail := none, ret := fun _ _ => none, call := fun g xs h k => (c g xs h).bind fun p => k p.1 p.2 }
/-- A store to the heap. -/
def storeH (P : Program) (t : TypeId) (a x : Operand) (fr : List AV) (h : AHeap) : Option AHeap := (valA P fr x).bind fun y => match sizeT P t, locA P fr a with
  | some size, some (.main b off) => match h.get b with
    | some (.cells cs true) => bif y.cells.size == size && Nat.ble (off + size) cs.length then some (h.put b (.cells (splice cs off y.cells.toList) true)) else none
    | _ => none
  | _, _ => none
def ev (P : Program) (loc : Nat → Bool) (c : Calls1) (o : Oper) (fr : List AV) (h : AHeap) : Option (AV × AHeap) := match o.op with
  | .store t a x => match o.dst with
    | none => (storeH P t a x fr h).map fun h' => (.tup [], h')
    | some _ => none
  | _ => opK P loc (pairM c) o fr (fun x h => some (x, h)) h
/-- No slot owns a block. -/
def noB (fr : List AV) : Prop := ∀ t cs, getF fr t ≠ .blk cs

def isStore (o : Oper) : Bool := match o.op with
  | .store _ _ _ => true
  | _ => false

theorem ev_eq {o : Oper} (hs : isStore o = false) : ev P loc c o fr h = opK P loc (pairM c) o fr (fun x h => some (x, h)) h := by
  unfold ev
  split
  · rename_i ho; simp [isStore, ho] at hs
  · rfl

theorem stepK_ev {o : Oper} (hs : isStore o = false ∨ noB fr) (k : List AV → AHeap → Option Res) : stepK P loc (optM c) o fr k h = (ev P loc c o fr h).bind fun p => k (putF fr o.dst p.1) p.2 := by
  cases hst : isStore o with
  | true =>
    have hnb : noB fr := by
      rcases hs with hs | hs
      · rw [hst] at hs; simp at hs
      · exact hs
    unfold isStore at hst
    split at hst
    · rename_i t ad x ho
      unfold stepK ev
      simp only [ho]
      cases hd : o.dst with
      | some _ => rfl
      | none =>
        simp only [storeK, storeH]
        cases hv : valA P fr x with
        | none => rfl
        | some y =>
          simp only [Mach.on, Option.bind_some]
          cases hsz : sizeT P t with
          | none => rfl
          | some size =>
            cases hl : locA P fr ad with
            | none => rfl
            | some l =>
              cases l with
              | loc s off =>
                obtain ⟨cs, hcs⟩ := locA_blk hl
                exact absurd hcs (hnb s cs)
              | main b off =>
                simp only
                split
                · rename_i cs hg
                  rw [hg]
                  simp only
                  cases (y.cells.size == size && Nat.ble (off + size) cs.length) <;> rfl
                · rename_i hne
                  split
                  · rename_i cs hg; exact absurd hg (hne cs)
                  · rfl
    · simp at hst
  | false =>
  have hs := hst
  rw [ev_eq hs]
  have hM : MRel0 (fun (x : Option (AV × AHeap)) (y : Option Res) => y = x.bind fun p => k (putF fr o.dst p.1) p.2) (pairM c) (optM c) := by
    refine ⟨rfl, fun g xs h k l hk => ?_⟩
    simp only [pairM, optM]
    cases c g xs h with
    | none => rfl
    | some p => exact hk _ _
  have := opK_rel (P := P) (loc := loc) hM (o := o) (fr := fr) (h := h) (k := fun x h => some (x, h)) (l := fun x h => k (putF fr o.dst x) h) (fun _ _ => rfl)
  unfold stepK
  split
  · rename_i ho; simp [isStore, ho] at hs
  · exact this

/-- Two frames that an operation cannot tell apart. -/
structure Agree0 (P : Program) (o : Oper) (fr fr2 : List AV) : Prop where
  op : ∀ x ∈ o.op.operands.toList, opA P fr x = opA P fr2 x
  ref : ∀ x ∈ o.op.operands.toList, ∀ s off, opA P fr x = .ref s off → getF fr s = getF fr2 s

structure Agree (P : Program) (o : Oper) (fr fr2 : List AV) : Prop extends Agree0 P o fr fr2 where
  nr : ∀ d, o.dst = some d → noRefs d fr = noRefs d fr2

theorem Agree0.val {o : Oper} (ha : Agree0 P o fr fr2) {x : Operand} (hx : x ∈ o.op.operands.toList) : valA P fr x = valA P fr2 x := by
  unfold valA; rw [ha.op x hx]
theorem Agree0.vals {o : Oper} (ha : Agree0 P o fr fr2) : ∀ {xs : List Operand}, (∀ x ∈ xs, x ∈ o.op.operands.toList) → valsA P fr xs = valsA P fr2 xs
  | [], _ => rfl
  | x :: xs, hx => by
    simp only [valsA]
    rw [ha.val (hx x (by simp)), ha.vals (fun y hy => hx y (by simp [hy]))]
theorem Agree0.place {o : Oper} (ha : Agree0 P o fr fr2) {x : Operand} (hx : x ∈ o.op.operands.toList) : locA P fr x = locA P fr2 x := by
  unfold locA
  rw [← ha.op x hx]
  split <;> first | rfl | skip
  rename_i s off he
  rw [ha.ref x hx s off he]
theorem Agree0.cells {o : Oper} (ha : Agree0 P o fr fr2) {x : Operand} (hx : x ∈ o.op.operands.toList) {l : Loc} (hl : locA P fr x = some l) (h : AHeap) : l.cells fr h = l.cells fr2 h := by
  cases l with
  | main b off => rfl
  | loc s off =>
    have key : getF fr s = getF fr2 s := by
      unfold locA at hl
      split at hl
      · simp at hl
      · rename_i cs hc
        split at hl
        · rename_i t
          injection hl with hl
          injection hl with h1 h2
          subst h1
          exact ha.op _ hx
        · simp at hl
      · rename_i s' off' he
        split at hl
        · injection hl with hl
          injection hl with h1 h2
          subst h1
          exact ha.ref x hx _ _ he
        · simp at hl
      · simp at hl
    simp only [Loc.cells, key]

theorem on_congr {A : Sort _} {M : Mach A} {α : Type} {x y : Option α} {f g : α → A} (hx : x = y) (hf : ∀ a, x = some a → f a = g a) : M.on x f = M.on y g := by
  subst hx
  cases x with
  | none => rfl
  | some a => exact hf a rfl

theorem mem1 {o : Oper} {x : Operand} {xs : Array Operand} (he : o.op.operands = xs) (hx : x ∈ xs.toList) : x ∈ o.op.operands.toList := by rw [he]; exact hx

theorem opK_agree {A : Type} {M : Mach A} {o : Oper} (ha : Agree P o fr fr2) (k : AV → AHeap → A) : opK P loc M o fr k h = opK P loc M o fr2 k h := by
  obtain ⟨dst, op, ty, pos, after, guard⟩ := o
  have H := fun x (hx : x ∈ op.operands.toList) => ha.op x hx
  have HV := fun x (hx : x ∈ op.operands.toList) => ha.val hx
  have HL := fun x (hx : x ∈ op.operands.toList) => ha.place hx
  have HR := fun x (hx : x ∈ op.operands.toList) s off => ha.ref x hx s off
  have HVS := fun xs (hx : ∀ x ∈ xs, x ∈ op.operands.toList) => ha.vals hx
  have HN := fun d => ha.nr d
  have HC := fun x (hx : x ∈ op.operands.toList) l hl => ha.cells (o := ⟨dst, op, ty, pos, after, guard⟩) hx (l := l) hl h
  cases op <;> simp only [opK]
  case move x => rw [H x (by simp [Op.operands])]
  case assign x => rw [H x (by simp [Op.operands])]
  case pick x y z => rw [HV x (by simp [Op.operands]), HV y (by simp [Op.operands]), HV z (by simp [Op.operands])]
  case alloc e =>
    cases zeroT P e <;> cases dst <;> first | rfl | (simp only; rw [HN _ rfl])
  case box e x =>
    rw [HV x (by simp [Op.operands])]
    cases valA P fr2 x <;> cases dst <;> first | rfl | (simp only; rw [HN _ rfl])
  case build t parts => rw [HVS _ (fun x hx => by simpa [Op.operands] using hx)]
  case buildSlice t len parts => rw [HVS _ (fun x hx => by simpa [Op.operands] using hx)]
  case load t x => exact on_congr (HL x (by simp [Op.operands])) fun l hl => by rw [HC x (by simp [Op.operands]) l hl]
  case nilCheck x =>
    rw [← H x (by simp [Op.operands])]
    split <;> first | rfl | skip
    rename_i s off he
    rw [HR x (by simp [Op.operands]) s off he]
  case binOp op t x y yt => rw [HV x (by simp [Op.operands]), HV y (by simp [Op.operands])]
  case unOp op t x => rw [HV x (by simp [Op.operands])]
  case convert s d x => rw [HV x (by simp [Op.operands])]
  case makeInterface t x => rw [HV x (by simp [Op.operands])]
  case makeFunc f xs ys => rw [HVS xs.toList (fun x hx => by simp [Op.operands] at hx ⊢; exact .inl hx), HVS ys.toList (fun x hx => by simp [Op.operands] at hx ⊢; exact .inr hx)]
  case mapUpdate t x y z => rw [HV x (by simp [Op.operands]), HV y (by simp [Op.operands]), HV z (by simp [Op.operands])]
  case lookup t x y c => rw [HV x (by simp [Op.operands]), HV y (by simp [Op.operands])]
  case makeSlice t x y => rw [HV x (by simp [Op.operands]), HV y (by simp [Op.operands])]
  case slice t x lo hi mx =>
    rw [HVS lo.toList (fun y hy => by simp [Op.operands] at hy ⊢; simp [hy]), HVS hi.toList (fun y hy => by simp [Op.operands] at hy ⊢; simp [hy]), HV x (by simp [Op.operands]), HL x (by simp [Op.operands])]
  case fieldAddr s x f => rw [HL x (by simp [Op.operands])]
  case field t x f => rw [HV x (by simp [Op.operands])]
  case indexAddr t x y => rw [HV x (by simp [Op.operands]), HV y (by simp [Op.operands]), HL x (by simp [Op.operands])]
  case index t x y => rw [HV x (by simp [Op.operands]), HV y (by simp [Op.operands])]
  case extract x i => rw [H x (by simp [Op.operands])]
  case call cl =>
    obtain ⟨callee, args, argTypes⟩ := cl
    have HA := HVS args.toList (fun y hy => by simp only [Op.operands, Call.operands, Array.toList_append, List.mem_append]; exact .inr hy)
    cases callee with
    | value f => simp only; rw [HV f (by simp [Op.operands, Call.operands]), HA]
    | invoke rv name => simp only; rw [HV rv (by simp [Op.operands, Call.operands]), HA]
    | builtin b =>
      simp only
      have HM : ∀ x ∈ args.toList, valA P fr x = valA P fr2 x := fun x hx => HV x (by simp only [Op.operands, Call.operands, Array.toList_append, List.mem_append]; exact .inr hx)
      have HMS : ∀ xs : List Operand, (∀ x ∈ xs, x ∈ args.toList) → valsA P fr xs = valsA P fr2 xs := fun xs hx => HVS xs (fun y hy => by simp only [Op.operands, Call.operands, Array.toList_append, List.mem_append]; exact .inr (hx y hy))
      generalize args.toList = al at HM HMS
      split
      · rename_i x t _; rw [HM x (by simp)]
      · rename_i x y t u _; rw [HM x (by simp), HM y (by simp)]
      · rename_i x y t u _; rw [HM x (by simp), HM y (by simp)]
      · rename_i x y t u _; rw [HM x (by simp), HM y (by simp)]
      · rename_i x t _; rw [HM x (by simp)]
      · rename_i x; rw [HM x (by simp)]
      · rename_i x y t u _; rw [HM x (by simp), HM y (by simp)]
      · rename_i x xs; rw [HM x (by simp), HMS xs (fun y hy => by simp [hy])]
      · rename_i x xs; rw [HM x (by simp), HMS xs (fun y hy => by simp [hy])]
      · rfl

theorem ev_agree {o : Oper} (ha : Agree P o fr fr2) : ev P loc c o fr h = ev P loc c o fr2 h := by
  cases hs : isStore o with
  | false => rw [ev_eq hs, ev_eq hs]; exact opK_agree ha _
  | true =>
    unfold isStore at hs
    split at hs
    · rename_i t ad x ho
      have h1 : valA P fr x = valA P fr2 x := ha.val (by rw [ho]; simp [Op.operands])
      have h2 : locA P fr ad = locA P fr2 ad := ha.place (by rw [ho]; simp [Op.operands])
      simp only [ev, ho, storeH, h1, h2]
    · simp at hs

end Go.Agm
