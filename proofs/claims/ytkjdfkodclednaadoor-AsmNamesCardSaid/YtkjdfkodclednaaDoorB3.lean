/- An abstract machine for one goroutine: a place in the code, under the names that it is to have; calls under the names of their contracts. No condition. -/
import Derived.Test.YtkjdfkodclednaaDoorB2
namespace Go.Agm

variable {P : Program} {w0 : World} {m m' m0 : MapN} {E : Nat → Prop} {fr : List AV} {h : AHeap} {a : Act} {w : World} {F : FT} {S : Nat → Nat}

/-- What a value leads to. -/
def selV (h : AHeap) (v : Value) (j : Nat) : Option Value := match v with
  | .pointer (some ⟨b, _, _⟩) => match h.get b with
    | some (.cells cs _) => cs[j]?
    | _ => none
  | .slice (some ⟨b, _, _⟩) _ _ => match h.get b with
    | some (.cells cs _) => cs[j]?
    | _ => none
  | .func _ xs ys => (xs.toList ++ ys.toList)[j]?
  | .agg cs => cs.toList[j]?
  | .iface _ x => some x
  | _ => none
def selsV (h : AHeap) : Value → List Nat → Option Value
  | v, [] => some v
  | v, j :: r => (selV h v j).bind fun u => selsV h u r
def pathV (fr : List AV) (h : AHeap) (s : Nat) (sel : List Nat) : Option Value := match getF fr s with
  | .v v => selsV h v sel
  | .blk cs => match sel with
    | [] => none
    | j :: r => (cs[j]?).bind fun v => selsV h v r
  | .tup xs => match sel with
    | [] => none
    | j :: r => (xs[j]?).bind fun v => selsV h v r
  | _ => none
def nameV : Value → Option Nat
  | .pointer (some ⟨b, _, _⟩) => some b
  | .slice (some ⟨b, _, _⟩) _ _ => some b
  | .map (some b) => some b
  | _ => none

structure Pth where
  slot : Nat
  sel : List Nat
  plain : Bool

def headN : Nat → List Bool → List (Nat × Bool)
  | _, [] => []
  | i, f :: r => (i, f) :: headN (i + 1) r
def pathsN (fr : List AV) (h : AHeap) : List Pth → Option (List (Nat × Bool))
  | [] => some []
  | p :: r => ((pathV fr h p.slot p.sel).bind nameV).bind fun b => (pathsN fr h r).bind fun l => some ((b, p.plain) :: l)

theorem headN_get : ∀ (fs : List Bool) (i j : Nat), j < fs.length → ((headN i fs).map (·.1))[j]? = some (i + j)
  | [], _, _, h => by simp at h
  | f :: fs, i, j, h => by
    cases j with
    | zero => simp [headN]
    | succ j =>
      have := headN_get fs (i + 1) j (by simpa using h)
      simp only [headN, List.map_cons, List.getElem?_cons_succ, this]
      congr 1; omega
theorem headN_len (i : Nat) (fs : List Bool) : (headN i fs).length = fs.length := by
  induction fs generalizing i with
  | nil => rfl
  | cons f fs ih => simp [headN, ih]

/-- The names of the entry, by their flags, then the names at the ends of paths. -/
def canonS (P : Program) (w0 : World) (fn : Func) (Q : Post) (flags : List Bool) (paths : List Pth) (t : List Item) (fr : List AV) (h : AHeap) : Prop :=
  match pathsN fr h paths with
  | some l => oblB h (headN P.globals.size flags ++ l) ∧
      Sem P w0 (P.globals.size + flags.length) fn Q t (fr.map (invA P.globals.size ((headN P.globals.size flags ++ l).map (·.1)))) (heapB P.globals.size (canonB P.globals.size ((headN P.globals.size flags ++ l).map (·.1)) h P.globals.size (headN P.globals.size flags ++ l)))
  | none => False

theorem canonS_sem {fn : Func} {Q : Post} {flags : List Bool} {paths : List Pth} {t : List Item} (e : canonS P w0 fn Q flags paths t fr h) : Sem P w0 (P.globals.size + flags.length) fn Q t fr h := by
  unfold canonS at e
  split at e
  · rename_i l hl
    obtain ⟨ho, s⟩ := e
    intro m E a w b cs hr hf hk
    obtain ⟨rs, h', w', fr', v, m', k0, k1, k2, k3, k4, k5, k6, k7⟩ := s _ E a w b cs (hr.canon ho) hf hk
    refine ⟨rs, h', w', fr', v, m', k0, k1, k2, k3, ?_, k5, k6, k7⟩
    intro i hi x hx
    refine k4 i hi x ?_
    unfold mIx
    by_cases hg : i < P.globals.size
    · rw [if_pos hg]; exact hx
    · rw [if_neg hg, List.map_append, List.getElem?_append_left (by rw [List.length_map, headN_len]; omega), headN_get _ _ _ (by omega)]
      have : P.globals.size + (i - P.globals.size) = i := by omega
      rw [this]
      exact hx
  · exact e.elim

/-! Calls. -/

/-- A value under the names that a renaming gives. -/
def renV (ρ : Nat → Nat) : Nat → Value → Option Value
  | _, .bool b => some (.bool b)
  | _, .int k n => some (.int k n)
  | _, .string s => some (.string s)
  | _, .pointer none => some (.pointer none)
  | _, .pointer (some ⟨b, off, none⟩) => some (.pointer (some ⟨ρ b, off, none⟩))
  | _, .slice none 0 0 => some (.slice none 0 0)
  | _, .slice (some ⟨b, off, none⟩) n sz => some (.slice (some ⟨ρ b, off, none⟩) n sz)
  | _, .map none => some (.map none)
  | _, .map (some b) => some (.map (some (ρ b)))
  | _, .nilFunc => some .nilFunc
  | _, .nilIface => some .nilIface
  | _, .chan none => some (.chan none)
  | d + 1, .func fn xs ys => (mapO (renV ρ d) xs.toList).bind fun us => (mapO (renV ρ d) ys.toList).bind fun vs => some (.func fn us.toArray vs.toArray)
  | d + 1, .iface t x => (renV ρ d x).map (.iface t)
  | d + 1, .agg cs => (mapO (renV ρ d) cs.toList).map fun us => .agg us.toArray
  | _, _ => none

theorem ren_one {ρ : Nat → Nat} {d : Nat} {x y : Value} (e : renV ρ d x = some y) (h : one x = true) : one y = true := by
  unfold renV at e
  split at e <;> first
    | (injection e with e; subst e; rfl)
    | (simp only [Option.map_eq_some_iff] at e; obtain ⟨_, _, rfl⟩ := e; first | rfl | (simp [one] at h))
    | (simp only [Option.bind_eq_some_iff, Option.some.injEq] at e; obtain ⟨_, _, _, _, rfl⟩ := e; rfl)
    | (simp at e; done)

theorem ren_V {ρ : Nat → Nat} (hm : ∀ b p, m b = some p → m0 (ρ b) = some p) : ∀ (d : Nat) {x y z : Value}, V m S x y → renV ρ d x = some z → V m0 S z y := by
  intro d
  induction d with
  | zero =>
    intro x y z hv e
    cases hv <;> (try simp only [renV] at e) <;> first
      | (injection e with e; subst e; constructor; done)
      | (injection e with e; subst e; exact .junk (by assumption))
      | (simp at e; done)
      | skip
    · rename_i h1
      injection e with e; subst e
      exact .ptr (hm _ _ h1)
    · rename_i h1 hn hz hc
      injection e with e; subst e
      exact .slice (hm _ _ h1) hn hz hc
    · rename_i a1 a2 sz
      obtain ⟨b, off, sp⟩ := a1
      cases sp with
      | some _ => simp [renV] at e
      | none =>
        simp only [renV] at e
        injection e with e; subst e; exact .sempty
    · rename_i a1 sz hz
      obtain ⟨b, off, sp⟩ := a1
      cases sp with
      | some _ => simp [renV] at e
      | none =>
        simp only [renV] at e
        injection e with e; subst e; exact .sghost hz
    · rename_i h1
      injection e with e; subst e
      exact .map (hm _ _ h1)
  | succ d ih =>
    intro x y z hv e
    cases hv <;> (try simp only [renV] at e) <;> first
      | (injection e with e; subst e; constructor; done)
      | (injection e with e; subst e; exact .junk (by assumption))
      | (simp at e; done)
      | skip
    · rename_i h1
      injection e with e; subst e
      exact .ptr (hm _ _ h1)
    · rename_i h1 hn hz hc
      injection e with e; subst e
      exact .slice (hm _ _ h1) hn hz hc
    · rename_i a1 a2 sz
      obtain ⟨b, off, sp⟩ := a1
      cases sp with
      | some _ => simp [renV] at e
      | none =>
        simp only [renV] at e
        injection e with e; subst e; exact .sempty
    · rename_i a1 sz hz
      obtain ⟨b, off, sp⟩ := a1
      cases sp with
      | some _ => simp [renV] at e
      | none =>
        simp only [renV] at e
        injection e with e; subst e; exact .sghost hz
    · rename_i h1
      injection e with e; subst e
      exact .map (hm _ _ h1)
    · rename_i h1 h2
      simp only [Option.bind_eq_some_iff, Option.some.injEq] at e
      obtain ⟨us, e1, vs, e2, rfl⟩ := e
      exact .func (VL.of_mapO ih h1 (by simpa using e1)) (VL.of_mapO ih h2 (by simpa using e2))
    · rename_i h1
      simp only [Option.map_eq_some_iff] at e
      obtain ⟨u, e1, rfl⟩ := e
      exact .iface (ih h1 e1)
    · rename_i h1 ho
      simp only [Option.map_eq_some_iff] at e
      obtain ⟨us, e1, rfl⟩ := e
      refine .agg (VL.of_mapO ih h1 (by simpa using e1)) ?_
      intro u hu
      obtain ⟨i, hi⟩ := List.mem_iff_getElem?.1 hu
      obtain ⟨x, hx, hxu⟩ := (mapO_get e1).2 i u (by simpa using hi)
      exact ren_one hxu (ho x (List.mem_of_getElem? hx))

/-- A block of an answer: with its flag. -/
abbrev OutB := Bool × Option ABlk

def renB (ρ : Nat → Nat) (f : Bool) (x : ABlk) : Option ABlk := bif f then some x else match x with
  | .cells cs rw => (mapO (renV ρ 4) cs).map fun us => .cells us rw
  | .map es => (mapO (renV ρ 4) (es.map (·.1))).bind fun ks => (mapO (renV ρ 4) (es.map (·.2))).bind fun vs => some (.map (ks.zip vs))

/-- Contracts on heaps that hold what they ask alone: the blocks' list. -/
abbrev Spec := FuncId → List Value → List (Option ABlk) → Option (Prop × List Value × List OutB)

/-- Where a contract's name lies. -/
def outN (G nx : Nat) (l : List Nat) (b : Nat) : Nat := bif Nat.blt b G then b else match l[b - G]? with
  | some x => x
  | none => nx + (b - (G + l.length))

/-- The heap behind a contract. -/
def mergeB (ρ : Nat → Nat) : Nat → List OutB → AHeap → Option AHeap
  | _, [], h => some h
  | i, (f, x) :: r, h => match x with
    | none => mergeB ρ (i + 1) r (h.del (ρ i))
    | some x => (renB ρ f x).bind fun y => mergeB ρ (i + 1) r (h.put (ρ i) y)
def oblO : List OutB → Prop
  | [] => True
  | (f, x) :: r => match f, x with
    | true, some x => plainB x ∧ oblO r
    | _, _ => oblO r

/-- What a call's arguments lead to: paths from the arguments. -/
def argN (h : AHeap) (args : List Value) (paths : List Pth) : Option (List (Nat × Bool)) := pathsN (args.map .v) h paths

def noDup : List Nat → Bool
  | [] => true
  | x :: l => !(l.any (Nat.beq x)) && noDup l

def hasAll (h : AHeap) (G : Nat) (l : List Nat) : Bool := l.all fun b => Nat.ble G b && (h.get b).isSome

/-- A contract, whatever the names. -/
def liftC (G : Nat) (paths : FuncId → List Pth) (tin tout : Tys) (s : Spec) : CallsP := fun f args h =>
  (argN h args (paths f)).bind fun l =>
  bif !(noDup (l.map (·.1)) && hasAll h G (l.map (·.1)) && Nat.ble G h.next && tysOk h (l.map (·.1)) tin) then none else
  (mapO (invV G (l.map (·.1)) 4) args).bind fun args0 =>
  (s f args0 (canonB G (l.map (·.1)) h G l)).bind fun p =>
  bif !(Nat.ble l.length p.2.2.length) then none else
  (mapO (renV (outN G h.next (l.map (·.1))) 4) p.2.1).bind fun rs =>
  (mergeB (outN G h.next (l.map (·.1))) G p.2.2 { next := h.next + (p.2.2.length - l.length), tr := h.tr, ty := tout.map (fun p => (outN G h.next (l.map (·.1)) (G + p.1), p.2)) ++ h.ty.filter fun p => !((l.map (·.1)).any (Nat.beq p.1)) && (h.get p.1).isSome }).bind fun h' =>
  some (oblB h l ∧ oblO p.2.2 ∧ p.1, rs, h')

/-- A contract is right where its heap is all there is. -/
def SpecOk (P : Program) (w0 : World) (tin tout : Tys) (s : Spec) : Prop :=
  ∀ f args bs p rs out, s f args bs = some (p, rs, out) → p → CallS P w0 f args (heapT P.globals.size bs (tyG P.globals.size tin)) fun rs' h' => rs' = rs ∧ h' = heapT P.globals.size (out.map (·.2)) (tyG P.globals.size tout)

theorem mergeB_get {ρ : Nat → Nat} : ∀ {out : List OutB} {i0 : Nat} {H h' : AHeap}, mergeB ρ i0 out H = some h' → (∀ i j, i0 ≤ i → i < i0 + out.length → i0 ≤ j → j < i0 + out.length → ρ i = ρ j → i = j) →
    h'.next = H.next ∧ ∀ j x, h'.get j = some x → (∃ i f y, out[i]? = some (f, some y) ∧ j = ρ (i0 + i) ∧ renB ρ f y = some x) ∨ ((∀ i, i < out.length → j ≠ ρ (i0 + i)) ∧ H.get j = some x)
  | [], i0, H, h', e, _ => by
    simp only [mergeB, Option.some.injEq] at e
    subst e
    exact ⟨rfl, fun j x hx => .inr ⟨fun i hi => by simp at hi, hx⟩⟩
  | (f, y) :: r, i0, H, h', e, hinj => by
    have hinj' : ∀ i j, i0 + 1 ≤ i → i < i0 + 1 + r.length → i0 + 1 ≤ j → j < i0 + 1 + r.length → ρ i = ρ j → i = j := fun i j h1 h2 h3 h4 => hinj i j (by omega) (by simp; omega) (by omega) (by simp; omega)
    have key : ∀ H1 : AHeap, H1.next = H.next → mergeB ρ (i0 + 1) r H1 = some h' → (∀ j x, H1.get j = some x → (j = ρ i0 ∧ ∃ y', y = some y' ∧ renB ρ f y' = some x) ∨ (j ≠ ρ i0 ∧ H.get j = some x)) →
        h'.next = H.next ∧ ∀ j x, h'.get j = some x → (∃ i f' y', ((f, y) :: r)[i]? = some (f', some y') ∧ j = ρ (i0 + i) ∧ renB ρ f' y' = some x) ∨ ((∀ i, i < ((f, y) :: r).length → j ≠ ρ (i0 + i)) ∧ H.get j = some x) := by
      intro H1 hn e1 hg
      obtain ⟨k1, k2⟩ := mergeB_get e1 hinj'
      refine ⟨k1.trans hn, fun j x hx => ?_⟩
      rcases k2 j x hx with ⟨i, f', y', q1, q2, q3⟩ | ⟨q1, q2⟩
      · exact .inl ⟨i + 1, f', y', by simpa using q1, by rw [q2]; congr 1; omega, q3⟩
      · rcases hg j x q2 with ⟨q3, y', q4, q5⟩ | ⟨q3, q4⟩
        · exact .inl ⟨0, f, y', by simp [q4], by simpa using q3, q5⟩
        · refine .inr ⟨fun i hi => ?_, q4⟩
          cases i with
          | zero => simpa using q3
          | succ i =>
            have := q1 i (by simpa using hi)
            have e3 : i0 + 1 + i = i0 + (i + 1) := by omega
            rwa [e3] at this
    cases y with
    | none =>
      refine key (H.del (ρ i0)) rfl e fun j x hx => ?_
      rw [AHeap.get_del] at hx
      split at hx
      · simp at hx
      · rename_i hj; exact .inr ⟨hj, hx⟩
    | some y =>
      simp only [mergeB, Option.bind_eq_some_iff] at e
      obtain ⟨z, hz, e⟩ := e
      refine key (H.put (ρ i0) z) rfl e fun j x hx => ?_
      rw [AHeap.get_put] at hx
      split at hx
      · rename_i hj; injection hx with hx; subst hx; exact .inl ⟨hj, y, rfl, hz⟩
      · rename_i hj; exact .inr ⟨hj, hx⟩

theorem mergeB_ty {ρ : Nat → Nat} : ∀ {out : List OutB} {i0 : Nat} {H h' : AHeap}, mergeB ρ i0 out H = some h' → h'.ty = H.ty
  | [], _, _, _, e => by simp only [mergeB, Option.some.injEq] at e; subst e; rfl
  | (f, none) :: r, i0, H, h', e => by
    have := mergeB_ty (out := r) (i0 := i0 + 1) e
    exact this
  | (f, some y) :: r, i0, H, h', e => by
    simp only [mergeB, Option.bind_eq_some_iff] at e
    obtain ⟨z, _, e⟩ := e
    have := mergeB_ty (out := r) (i0 := i0 + 1) e
    exact this

theorem oblO_get : ∀ {out : List OutB}, oblO out → ∀ (i : Nat) (x : ABlk), out[i]? = some (true, some x) → plainB x
  | [], _, i, x, e => by simp at e
  | (f, y) :: r, ho, i, x, e => by
    cases i with
    | zero =>
      simp only [List.getElem?_cons_zero, Option.some.injEq, Prod.mk.injEq] at e
      obtain ⟨rfl, rfl⟩ := e
      exact ho.1
    | succ i =>
      have ho' : oblO r := by
        unfold oblO at ho
        split at ho
        · exact ho.2
        · exact ho
      exact oblO_get ho' i x (by simpa using e)

theorem noDup_iff : ∀ {l : List Nat}, noDup l = true → l.Nodup
  | [], _ => by simp
  | x :: l, h => by
    simp only [noDup, Bool.and_eq_true, Bool.not_eq_true', List.any_eq_false] at h
    refine List.nodup_cons.2 ⟨fun hx => ?_, noDup_iff h.2⟩
    have := h.1 x hx
    simp [Nat.beq_refl] at this

theorem ren_cells {ρ : Nat → Nat} (hm : ∀ b p, m b = some p → m0 (ρ b) = some p) {cs us : List Value} (e : mapO (renV ρ 4) cs = some us) {C : Array Value} {bs : Nat} (hv : VAt m S cs C bs) : VAt m0 S us C bs := by
  obtain ⟨h1, h2, h3⟩ := hv
  obtain ⟨k1, k2⟩ := mapO_get e
  refine ⟨by omega, ?_, ?_⟩
  · intro u hu
    obtain ⟨i, hi⟩ := List.mem_iff_getElem?.1 hu
    obtain ⟨x, hx, hxu⟩ := k2 i u hi
    exact ren_one hxu (h2 x (List.mem_of_getElem? hx))
  · rw [k1]
    exact VL.of_mapO (ren_V hm 4) h3 e

theorem ren_res {ρ : Nat → Nat} (hm : ∀ b p, m b = some p → m0 (ρ b) = some p) {rs us : List Value} (e : mapO (renV ρ 4) rs = some us) {v : Value} (hv : ResV m S rs v) : ResV m0 S us v := by
  match rs, us, e, hv with
  | [], us, e, hv =>
    simp only [mapO, Option.some.injEq] at e
    subst e
    obtain ⟨vs, h1, h2⟩ := hv
    refine ⟨vs, h1, ?_⟩
    have := h2.length
    have h3 : vs.toList = [] := List.length_eq_zero_iff.1 (by simpa using this)
    rw [h3]
    exact .nil
  | [x], us, e, hv =>
    simp only [mapO, Option.bind_eq_some_iff, Option.some.injEq] at e
    obtain ⟨y, hy, ys, rfl, rfl⟩ := e
    exact ren_V hm 4 hv hy
  | x :: x' :: xs, us, e, hv =>
    obtain ⟨vs, h1, h2⟩ := hv
    have h3 := VL.of_mapO (ren_V hm 4) h2 e
    have hlen := (mapO_get e).1
    match us, hlen with
    | y :: y' :: ys, _ => exact ⟨vs, h1, h3⟩

theorem liftC_ok {paths : FuncId → List Pth} {tin tout : Tys} {s : Spec} (hs : SpecOk P w0 tin tout s) : CallsOk P w0 (liftC P.globals.size paths tin tout s) := by
  intro f args h p rs h' e hp m E w args' hr hv he
  unfold liftC at e
  rw [Option.bind_eq_some_iff] at e
  obtain ⟨l, hl, e⟩ := e
  cases hc : (!(noDup (l.map (·.1)) && hasAll h P.globals.size (l.map (·.1)) && Nat.ble P.globals.size h.next && tysOk h (l.map (·.1)) tin)) with
  | true => rw [hc] at e; simp at e
  | false =>
  rw [hc] at e
  simp only [cond_false, Option.bind_eq_some_iff] at e
  obtain ⟨args0, ha, ⟨p0, rs0, out⟩, hsp, e⟩ := e
  simp only at e
  cases hc2 : (!(Nat.ble l.length out.length)) with
  | true => rw [hc2] at e; simp at e
  | false =>
  rw [hc2] at e
  simp only [cond_false, Option.bind_eq_some_iff, Option.some.injEq, Prod.mk.injEq] at e
  obtain ⟨rs', hrs, h'', hmg, rfl, rfl, rfl⟩ := e
  obtain ⟨ho, hoo, hp0⟩ := hp
  simp only [Bool.not_eq_false', Bool.and_eq_true] at hc hc2
  obtain ⟨⟨⟨hnd, hall⟩, hGn⟩, htin⟩ := hc
  have hlen : l.length ≤ out.length := Nat.le_of_ble_eq_true hc2
  have hGn : P.globals.size ≤ h.next := Nat.le_of_ble_eq_true hGn
  have hnd := noDup_iff hnd
  simp only [hasAll, List.all_eq_true, Bool.and_eq_true] at hall
  have hnm : ∀ x ∈ l.map (·.1), P.globals.size ≤ x ∧ x < h.next := by
    intro x hx
    obtain ⟨h1, h2⟩ := hall x hx
    obtain ⟨y, hy⟩ := Option.isSome_iff_exists.1 h2
    exact ⟨Nat.le_of_ble_eq_true h1, hr.dom x y hy⟩
  have hix := ix_mIx P.globals.size (l.map (·.1)) m
  have hcan := hr.canon (l := l) ho
  have hget := canon_get (G := P.globals.size) ho
  obtain ⟨E0, hE0⟩ : ∃ E0 : Nat → Prop, E0 = fun B => E B ∨ ∃ b x bs, h.get b = some x ∧ b ∉ l.map (·.1) ∧ m b = some (B, bs) := ⟨_, rfl⟩
  have hEE : ∀ B, E B → E0 B := fun B hB => by rw [hE0]; exact .inl hB
  have hno : ∀ i x B bs, (heapB P.globals.size (canonB P.globals.size (l.map (·.1)) h P.globals.size l)).get i = some x → x.own = true → mIx P.globals.size (l.map (·.1)) m i = some (B, bs) → ¬ E B → ¬ E0 B := by
    intro i x B bs hx hown hm hE hh
    rw [hE0] at hh
    rcases hh with hh | ⟨b', x', bs', k1, k2, k3⟩
    · exact hE hh
    · obtain ⟨b, f, y, q1, q2, q3, q4⟩ := hget i x hx
      rw [hix b i q2] at hm
      have hown' : y.own = true := by
        cases f with
        | true => obtain ⟨rfl, _⟩ := by simpa using q4
                  exact hown
        | false =>
          have q4 : invB P.globals.size (l.map (·.1)) y = some x := by simpa using q4
          cases y with
          | map es => rfl
          | cells us rw' =>
            simp only [invB, Option.map_eq_some_iff] at q4
            obtain ⟨_, _, rfl⟩ := q4
            exact hown
      have := hr.inj b b' y x' B bs bs' q3 k1 hm k3 hown'
      subst this
      exact k2 (List.mem_map.2 ⟨(b, f), q1, rfl⟩)
  have hcan0 : HRel P w0 (mIx P.globals.size (l.map (·.1)) m) E0 (heapB P.globals.size (canonB P.globals.size (l.map (·.1)) h P.globals.size l)) w := by
    refine ⟨hcan.base, fun B hB => hEE B (hcan.out B hB), ?_, hcan.glob, hcan.lt, hcan.dom, ?_, ?_, hcan.inj, hcan.ty⟩
    · intro B hB
      rw [hE0] at hB
      rcases hB with hB | ⟨b, x, bs, _, _, k⟩
      · exact hr.ext B hB
      · exact (hr.lt _ _ _ k).1
    · intro b cs rw hx
      rcases hcan.cells b cs rw hx with hg | ⟨B, bs, C, el, fz, k1, k2, k3, k4, k5⟩
      · exact .inl hg
      exact .inr ⟨B, bs, C, el, fz, k1, k2, k3, fun hh => ⟨hno b _ B bs hx hh k1 (k4 hh).1, (k4 hh).2⟩, k5⟩
    · intro b es hx
      obtain ⟨B, en, cl, k1, k2, k3, k4, k5⟩ := hcan.maps b es hx
      exact ⟨B, en, cl, k1, k2, hno b _ B 0 hx rfl k1 k3, k4, k5⟩
  have hv0 : VL (mIx P.globals.size (l.map (·.1)) m) (szB w) args0 args' := VL.of_mapO (inv_V hix 4) hv ha
  refine (hs f args0 _ p0 rs0 out hsp hp0 _ E0 w args' (hcan0.heapT (tys_known hr htin)) hv0 he).mono ?_
  rintro en w' ⟨rs1, h1, v, m1, ⟨rfl, hheq⟩, rfl, hle, hr1, hkp, hres⟩
  have hnx : h1.next = P.globals.size + out.length := by rw [hheq, heapT_next, List.length_map]
  have hgt : ∀ i, h1.get i = (heapB P.globals.size (out.map (·.2))).get i := fun i => by rw [hheq, heapT_get]
  have hkE : Keep E w w' := hkp.sub hEE
  have hll : (l.map (·.1)).length = l.length := List.length_map _
  have hρr : ∀ i, i < l.length → outN P.globals.size h.next (l.map (·.1)) (P.globals.size + i) = (l.map (·.1))[i]?.getD 0 ∧ (l.map (·.1))[i]?.getD 0 ∈ l.map (·.1) := by
    intro i hi
    have hx : (l.map (·.1))[i]? = some ((l.map (·.1))[i]'(by rw [hll]; exact hi)) := List.getElem?_eq_getElem _
    have h2 : Nat.blt (P.globals.size + i) P.globals.size = false := by
      cases hb : Nat.blt (P.globals.size + i) P.globals.size with
      | false => rfl
      | true => have := Nat.le_of_ble_eq_true hb; omega
    have h3 : P.globals.size + i - P.globals.size = i := by omega
    unfold outN
    rw [h2]
    simp only [cond_false, h3, hx, Option.getD_some]
    exact ⟨trivial, List.getElem_mem _⟩
  have hρn : ∀ i, l.length ≤ i → outN P.globals.size h.next (l.map (·.1)) (P.globals.size + i) = h.next + (i - l.length) := by
    intro i hi
    have hx : (l.map (·.1))[i]? = none := List.getElem?_eq_none_iff.2 (by rw [hll]; exact hi)
    have h2 : Nat.blt (P.globals.size + i) P.globals.size = false := by
      cases hb : Nat.blt (P.globals.size + i) P.globals.size with
      | false => rfl
      | true => have := Nat.le_of_ble_eq_true hb; omega
    have h3 : P.globals.size + i - P.globals.size = i := by omega
    unfold outN
    rw [h2]
    simp only [cond_false, h3, hx, hll]
    omega
  have hinj : ∀ i j, P.globals.size ≤ i → i < P.globals.size + out.length → P.globals.size ≤ j → j < P.globals.size + out.length → outN P.globals.size h.next (l.map (·.1)) i = outN P.globals.size h.next (l.map (·.1)) j → i = j := by
    intro i j h1 _ h3 _ h5
    obtain ⟨i, rfl⟩ : ∃ k, i = P.globals.size + k := ⟨i - P.globals.size, by omega⟩
    obtain ⟨j, rfl⟩ : ∃ k, j = P.globals.size + k := ⟨j - P.globals.size, by omega⟩
    congr 1
    by_cases hi : i < l.length
    · by_cases hj : j < l.length
      · rw [(hρr i hi).1, (hρr j hj).1] at h5
        have e1 : (l.map (·.1))[i]? = some ((l.map (·.1))[i]'(by rw [hll]; exact hi)) := List.getElem?_eq_getElem _
        have e2 : (l.map (·.1))[j]? = some ((l.map (·.1))[j]'(by rw [hll]; exact hj)) := List.getElem?_eq_getElem _
        rw [e1, e2, Option.getD_some, Option.getD_some] at h5
        exact (List.nodup_iff_pairwise_ne.1 hnd |> fun hp => by
          by_cases hij : i = j
          · exact hij
          · exfalso
            rcases Nat.lt_or_gt_of_ne hij with hlt | hlt
            · exact List.pairwise_iff_getElem.1 hp i j (by rw [hll]; exact hi) (by rw [hll]; exact hj) hlt h5
            · exact List.pairwise_iff_getElem.1 hp j i (by rw [hll]; exact hj) (by rw [hll]; exact hi) hlt h5.symm)
      · rw [(hρr i hi).1, hρn j (by omega)] at h5
        obtain ⟨_, hlt⟩ := hnm _ (hρr i hi).2
        omega
    · by_cases hj : j < l.length
      · rw [(hρr j hj).1, hρn i (by omega)] at h5
        obtain ⟨_, hlt⟩ := hnm _ (hρr j hj).2
        omega
      · rw [hρn i (by omega), hρn j (by omega)] at h5
        omega
  have hixn : ∀ i, i < l.length → nameIx P.globals.size (l.map (·.1)) ((l.map (·.1))[i]?.getD 0) = some (P.globals.size + i) := by
    intro i hi
    have hx : (l.map (·.1))[i]? = some ((l.map (·.1))[i]'(by rw [hll]; exact hi)) := List.getElem?_eq_getElem _
    rw [hx, Option.getD_some]
    have hge := (hnm _ (List.mem_of_getElem? hx)).1
    have hsome : ∀ (r : List Nat) (k : Nat) (b : Nat), b ∈ r → ∃ j, ixOf b r k = some j := by
      intro r
      induction r with
      | nil => intro k b hb; simp at hb
      | cons y r ih =>
        intro k b hb
        simp only [ixOf]
        cases e : ixOf b r (k + 1) with
        | some j => exact ⟨j, rfl⟩
        | none =>
          rcases List.mem_cons.1 hb with rfl | hb
          · exact ⟨k, by simp [Nat.beq_refl]⟩
          · obtain ⟨j, hj⟩ := ih (k + 1) b hb
            rw [hj] at e; simp at e
    obtain ⟨j, hj⟩ := hsome (l.map (·.1)) P.globals.size _ (List.mem_of_getElem? hx)
    have hnb : Nat.blt ((l.map (·.1))[i]'(by rw [hll]; exact hi)) P.globals.size = false := by
      cases hb : Nat.blt ((l.map (·.1))[i]'(by rw [hll]; exact hi)) P.globals.size with
      | false => rfl
      | true => have := Nat.le_of_ble_eq_true hb; omega
    unfold nameIx
    rw [hnb, cond_false, hj]
    obtain ⟨g1, g2⟩ := ixOf_get hj
    have hjl := (List.getElem?_eq_some_iff.1 g2).1
    have : j - P.globals.size = i := by
      have e3 := (List.getElem?_eq_some_iff.1 g2).2
      by_cases hij : j - P.globals.size = i
      · exact hij
      · exfalso
        have hp := List.nodup_iff_pairwise_ne.1 hnd
        rcases Nat.lt_or_gt_of_ne hij with hlt | hlt
        · exact List.pairwise_iff_getElem.1 hp _ _ hjl (by rw [hll]; exact hi) hlt e3
        · exact List.pairwise_iff_getElem.1 hp _ _ (by rw [hll]; exact hi) hjl hlt e3.symm
    congr 1
    omega
  obtain ⟨m', hm'⟩ : ∃ m' : MapN, m' = fun b => if b < h.next then (match m b with
    | some q => some q
    | none => (nameIx P.globals.size (l.map (·.1)) b).bind m1) else m1 (P.globals.size + l.length + (b - h.next)) := ⟨_, rfl⟩
  have hmm : MLe m m' := by
    intro b x hx
    obtain ⟨B, bs⟩ := x
    rw [hm']
    simp only [if_pos (hr.lt _ _ _ hx).2, hx]
  have hρe : ∀ i, m' (outN P.globals.size h.next (l.map (·.1)) (P.globals.size + i)) = m1 (P.globals.size + i) := by
    intro i
    by_cases hi : i < l.length
    · rw [(hρr i hi).1]
      have hmem := (hρr i hi).2
      have hlt := (hnm _ hmem).2
      rw [hm']
      simp only [if_pos hlt]
      cases hmx : m ((l.map (·.1))[i]?.getD 0) with
      | some q =>
        have h3 : P.globals.size + i - P.globals.size = i := by omega
        have hx : (l.map (·.1))[i]? = some ((l.map (·.1))[i]'(by rw [hll]; exact hi)) := List.getElem?_eq_getElem _
        have : mIx P.globals.size (l.map (·.1)) m (P.globals.size + i) = some q := by
          simp only [mIx, if_neg (show ¬ P.globals.size + i < P.globals.size by omega), h3, hx, Option.bind_some]
          rw [hx, Option.getD_some] at hmx
          exact hmx
        exact (hle _ _ this).symm
      | none =>
        simp only [hixn i hi, Option.bind_some]
    · rw [hρn i (by omega), hm']
      simp only
      rw [if_neg (by omega)]
      congr 1
      omega
  have hρm : ∀ b q, m1 b = some q → m' (outN P.globals.size h.next (l.map (·.1)) b) = some q := by
    intro b q hq
    by_cases hlt : b < P.globals.size
    · unfold outN
      have hb : Nat.blt b P.globals.size = true := Nat.ble_eq_true_of_le hlt
      rw [hb, cond_true]
      rw [hr1.glob b hlt] at hq
      exact hmm b q (by rw [hr.glob b hlt]; exact hq)
    · obtain ⟨i, rfl⟩ : ∃ k, b = P.globals.size + k := ⟨b - P.globals.size, by omega⟩
      rw [hρe]; exact hq
  obtain ⟨hnext, hmget⟩ := mergeB_get hmg hinj
  have hsrc : ∀ (i : Nat) (f : Bool) (y : ABlk), out[i]? = some (f, some y) → h1.get (P.globals.size + i) = some y := by
    intro i f y hy
    rw [hgt, heapB_get, if_neg (by omega)]
    have : P.globals.size + i - P.globals.size = i := by omega
    rw [this, List.getElem?_map, hy]
    rfl
  have houtm : ∀ j, j < h.next → (∀ i, i < out.length → j ≠ outN P.globals.size h.next (l.map (·.1)) (P.globals.size + i)) → m' j = m j := by
    intro j hjn hj
    rw [hm']
    simp only [if_pos hjn]
    cases hmj : m j with
    | some q => rfl
    | none =>
      simp only
      cases hnj : nameIx P.globals.size (l.map (·.1)) j with
      | none => rfl
      | some k =>
        exfalso
        rcases nameIx_get hnj with ⟨h2, _⟩ | ⟨h2, h3, h4⟩
        · rw [hr.glob j h2] at hmj; simp at hmj
        · have hil := (List.getElem?_eq_some_iff.1 h4).1
          rw [hll] at hil
          refine hj (k - P.globals.size) (by omega) ?_
          rw [(hρr _ hil).1, h4]; rfl
  have hout : ∀ j x, (∀ i, i < out.length → j ≠ outN P.globals.size h.next (l.map (·.1)) (P.globals.size + i)) → h.get j = some x → ∀ B bs, m j = some (B, bs) → E0 B := by
    intro j x hj hx B bs hB
    rw [hE0]
    refine .inr ⟨j, x, bs, hx, fun hmem => ?_, hB⟩
    obtain ⟨i, hi⟩ := List.mem_iff_getElem?.1 hmem
    have hil := (List.getElem?_eq_some_iff.1 hi).1
    rw [hll] at hil
    refine hj i (by omega) ?_
    rw [(hρr i hil).1, hi]; rfl
  refine ⟨v, m', rfl, hmm, ⟨hkE.below hr.base hr.out, hr.out, fun B hB => Nat.lt_of_lt_of_le (hr.ext B hB) hkE.size, ?_, ?_, ?_, ?_, ?_, ?_, fun b t e => by
    rw [mergeB_ty hmg] at e
    rcases List.mem_append.1 e with e | e
    · rw [List.mem_map] at e
      obtain ⟨p, hp, e⟩ := e
      injection e with e1 e2
      subst e1 e2
      have hty1 := hr1.ty (P.globals.size + p.1) p.2 (by rw [hheq, heapT_ty]; exact List.mem_map_of_mem (f := fun p : Nat × TypeId => (P.globals.size + p.1, p.2)) hp)
      obtain ⟨B, C, fz, t1, t2⟩ := hty1
      exact ⟨B, C, fz, by rw [hρe]; exact t1, t2⟩
    · rw [List.mem_filter] at e
      obtain ⟨e1, e2⟩ := e
      simp only [Bool.and_eq_true, Bool.not_eq_true'] at e2
      obtain ⟨x, hx⟩ := Option.isSome_iff_exists.1 e2.2
      obtain ⟨B, C, fz, t1, t2⟩ := hr.ty b t e1
      have hnl : b ∉ l.map (·.1) := by
        intro hm
        have : ((l.map (·.1)).any (Nat.beq b)) = true := List.any_eq_true.2 ⟨b, hm, Nat.beq_refl b⟩
        rw [this] at e2; simp at e2
      exact ⟨B, C, fz, hmm _ _ t1, by rw [hkp.block B (by rw [hE0]; exact .inr ⟨b, x, 0, hx, hnl, t1⟩)]; exact t2⟩⟩, hkE, ren_res hρm hrs hres⟩
  · intro g hg
    exact hmm g _ (hr.glob g hg)
  · intro b B bs hb
    rw [hm'] at hb
    rw [hnext]
    simp only at hb ⊢
    split at hb
    · rename_i hlt
      refine ⟨?_, by omega⟩
      split at hb
      · rename_i q hq
        injection hb with hb
        subst hb
        exact Nat.lt_of_lt_of_le (hr.lt _ _ _ hq).1 hkE.size
      · simp only [Option.bind_eq_some_iff] at hb
        obtain ⟨k, _, hk⟩ := hb
        exact (hr1.lt _ _ _ hk).1
    · have := hr1.lt _ _ _ hb
      rw [hnx] at this
      exact ⟨this.1, by omega⟩
  · intro j x hj
    rw [hnext]
    simp only
    rcases hmget j _ hj with ⟨i, f, y, q1, q2, q3⟩ | ⟨q1, q2⟩
    · have hi := (List.getElem?_eq_some_iff.1 q1).1
      by_cases hil : i < l.length
      · have := (hnm _ (hρr i hil).2).2
        rw [q2, (hρr i hil).1]
        omega
      · rw [q2, hρn i (by omega)]
        omega
    · have := hr.dom j x q2
      omega
  · intro j cs rw hj
    rcases hmget j _ hj with ⟨i, f, y, q1, q2, q3⟩ | ⟨q1, q2⟩
    · have hy := hsrc i f y q1
      have key : ∃ us, y = .cells us rw ∧ (f = true → cs = us) ∧ (f = false → mapO (renV (outN P.globals.size h.next (l.map (·.1))) 4) us = some cs) := by
        unfold renB at q3
        cases f with
        | true => simp only [cond_true, Option.some.injEq] at q3; subst q3; exact ⟨cs, rfl, fun _ => rfl, fun hh => by simp at hh⟩
        | false =>
          simp only [cond_false] at q3
          cases y with
          | map es => simp only [Option.bind_eq_some_iff, Option.some.injEq] at q3; obtain ⟨_, _, _, _, q3⟩ := q3; simp at q3
          | cells us rw' =>
            simp only [Option.map_eq_some_iff, ABlk.cells.injEq] at q3
            obtain ⟨_, q4, rfl, rfl⟩ := q3
            exact ⟨us, rfl, fun hh => by simp at hh, fun _ => q4⟩
      obtain ⟨us, rfl, g1, g2⟩ := key
      rcases hr1.cells _ us rw hy with ⟨t1, t2, t3⟩ | ⟨B, bs, C, el, fz, k1, k2, k3, k4, k5⟩
      · refine .inl ⟨?_, t2, by rw [q2, hρe]; exact t3⟩
        cases f with
        | true => rw [g1 rfl]; exact t1
        | false =>
          have := g2 rfl
          rw [t1] at this
          simp only [mapO, Option.some.injEq] at this
          exact this.symm
      refine .inr ⟨B, bs, C, el, fz, by rw [q2]; exact hρm _ _ k1, k2, ?_, fun hh => ⟨fun hE => (k4 hh).1 (hEE B hE), (k4 hh).2⟩, k5⟩
      cases f with
      | true =>
        rw [g1 rfl]
        exact ⟨k3.1, k3.2.1, VL.plainJ k3.2.2 (oblO_get hoo i _ q1)⟩
      | false => exact ren_cells hρm (g2 rfl) k3
    · have q2' : h.get j = some (.cells cs rw) := q2
      rcases hr.cells j cs rw q2' with ⟨t1, t2, t3⟩ | ⟨B, bs, C, el, fz, k1, k2, k3, k4, k5⟩
      · exact .inl ⟨t1, t2, by rw [houtm j (hr.dom j _ q2') q1]; exact t3⟩
      have hE := hout j _ q1 q2' B bs k1
      exact .inr ⟨B, bs, C, el, fz, hmm _ _ k1, by rw [hkp.block B hE]; exact k2, k3.mono hmm hkE.len, k4, k5⟩
  · intro j es hj
    rcases hmget j _ hj with ⟨i, f, y, q1, q2, q3⟩ | ⟨q1, q2⟩
    · have hy := hsrc i f y q1
      unfold renB at q3
      cases f with
      | true =>
        simp only [cond_true, Option.some.injEq] at q3
        subst q3
        obtain ⟨B, en, cl, k1, k2, k3, k4, k5⟩ := hr1.maps _ es hy
        have hpl := oblO_get hoo i _ q1
        exact ⟨B, en, cl, by rw [q2]; exact hρm _ _ k1, k2, fun hE => k3 (hEE B hE), VL.plainJ k4 hpl.1, VL.plainJ k5.1 hpl.2, k5.2⟩
      | false =>
        simp only [cond_false] at q3
        cases y with
        | cells us rw' => simp only [Option.map_eq_some_iff] at q3; obtain ⟨_, _, q3⟩ := q3; simp at q3
        | map us =>
          simp only [Option.bind_eq_some_iff, Option.some.injEq, ABlk.map.injEq] at q3
          obtain ⟨ks, e1, vs, e2, rfl⟩ := q3
          obtain ⟨B, en, cl, k1, k2, k3, k4, k5⟩ := hr1.maps _ us hy
          obtain ⟨z1, z2⟩ := VL.of_zip (ks := ks) (vs := vs) (by rw [(mapO_get e1).1, (mapO_get e2).1]; simp)
          exact ⟨B, en, cl, by rw [q2]; exact hρm _ _ k1, k2, fun hE => k3 (hEE B hE), by rw [z1]; exact VL.of_mapO (ren_V hρm 4) k4 e1, by rw [z2]; exact VL.of_mapO (ren_V hρm 4) k5.1 e2, k5.2⟩
    · have q2' : h.get j = some (.map es) := q2
      obtain ⟨B, en, cl, k1, k2, k3, k4, k5⟩ := hr.maps j es q2'
      have hE := hout j _ q1 q2' B 0 k1
      exact ⟨B, en, cl, hmm _ _ k1, by rw [hkp.block B hE]; exact k2, k3, k4.mono hmm hkE.len, k5.1.mono hmm hkE.len, k5.2⟩
  · intro j j' x x' B bs bs' e1 e2 n1 n2 hown
    have own1 : ∀ (i : Nat) (f : Bool) (y z : ABlk), out[i]? = some (f, some y) → renB (outN P.globals.size h.next (l.map (·.1))) f y = some z → z.own = true → y.own = true := by
      intro i f y z _ hz ho
      unfold renB at hz
      cases f with
      | true => simp only [cond_true, Option.some.injEq] at hz; subst hz; exact ho
      | false =>
        cases y with
        | map es => rfl
        | cells us rw' => simp only [cond_false, Option.map_eq_some_iff] at hz; obtain ⟨_, _, rfl⟩ := hz; exact ho
    have back : ∀ (i : Nat) (f : Bool) (y : ABlk), out[i]? = some (f, some y) → ∀ p, m' (outN P.globals.size h.next (l.map (·.1)) (P.globals.size + i)) = some p → m1 (P.globals.size + i) = some p := by
      intro i f y hy p hp
      rw [hρe] at hp
      exact hp
    have notE0 : ∀ (i : Nat) (f : Bool) (y : ABlk), out[i]? = some (f, some y) → y.own = true → ∀ B bs, m1 (P.globals.size + i) = some (B, bs) → ¬ E0 B := by
      intro i f y hy ho B bs hB
      have hs := hsrc i f y hy
      cases y with
      | cells us rw' =>
        obtain ⟨C, el, fz, k2, k3, k4, k5⟩ := hr1.cellsM hs hB
        exact (k4 ho).1
      | map es =>
        obtain ⟨B', en, cl, k1, k2, k3, k4, k5⟩ := hr1.maps _ es hs
        rw [hB] at k1
        injection k1 with k1
        injection k1 with k1 k1'
        subst k1
        exact k3
    rcases hmget j _ e1 with ⟨i, f, y, q1, q2, q3⟩ | ⟨q1, q2⟩
    · rcases hmget j' _ e2 with ⟨i', f', y', r1, r2, r3⟩ | ⟨r1, r2⟩
      · rw [q2] at n1
        rw [r2] at n2
        have := hr1.inj _ _ y y' B bs bs' (hsrc i f y q1) (hsrc i' f' y' r1) (back i f y q1 _ n1) (back i' f' y' r1 _ n2) (own1 i f y x q1 q3 hown)
        rw [q2, r2, this]
      · rw [q2] at n1
        exfalso
        have r2' : h.get j' = some x' := r2
        rw [houtm j' (hr.dom j' _ r2') r1] at n2
        exact notE0 i f y q1 (own1 i f y x q1 q3 hown) B bs (back i f y q1 _ n1) (hout j' x' r1 r2' B bs' n2)
    · have q2' : h.get j = some x := q2
      rw [houtm j (hr.dom j _ q2') q1] at n1
      have hE0B := hout j x q1 q2' B bs n1
      rcases hmget j' _ e2 with ⟨i', f', y', r1, r2, r3⟩ | ⟨r1, r2⟩
      · exfalso
        rw [r2] at n2
        have n2' := back i' f' y' r1 _ n2
        by_cases hy' : y'.own = true
        · exact notE0 i' f' y' r1 hy' B bs' n2' hE0B
        · have hs := hsrc i' f' y' r1
          cases y' with
          | map es => exact hy' rfl
          | cells us rw' =>
            obtain ⟨C, el, fz, k2, k3, k4, k5⟩ := hr1.cellsM hs n2'
            have hlt := k5 (by simpa [ABlk.own] using hy')
            have hEB := hr.out B hlt
            cases x with
            | cells c rwx =>
              obtain ⟨C, el, fz, k2, k3, k4, k5⟩ := hr.cellsM q2' n1
              exact (k4 hown).1 hEB
            | map es =>
              obtain ⟨B', en, cl, k1, k2, k3, k4, k5⟩ := hr.maps j es q2'
              rw [n1] at k1
              injection k1 with k1
              injection k1 with k1 k1'
              subst k1
              exact k3 hEB
      · have r2' : h.get j' = some x' := r2
        rw [houtm j' (hr.dom j' _ r2') r1] at n2
        exact hr.inj j j' x x' B bs bs' q2' r2' n1 n2 hown

end Go.Agm
