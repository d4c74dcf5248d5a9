/- An abstract machine for one goroutine: heaps and frames under other names, without what is named no more. No condition. -/
import Derived.Test.YtkjdfkodclednaaDoorB1
namespace Go.Agm

variable {P : Program} {w0 : World} {m m' m0 : MapN} {E : Nat → Prop} {fr : List AV} {h : AHeap} {a : Act} {w : World} {F : FT} {S : Nat → Nat}

/-- Where a name stands in a list of names: the last place. -/
def ixOf (b : Nat) : List Nat → Nat → Option Nat
  | [], _ => none
  | x :: l, i => match ixOf b l (i + 1) with
    | some j => some j
    | none => bif Nat.beq x b then some i else none
def nameIx (G : Nat) (l : List Nat) (b : Nat) : Option Nat := bif Nat.blt b G then some b else ixOf b l G

def mapO (f : Value → Option Value) : List Value → Option (List Value)
  | [] => some []
  | x :: xs => (f x).bind fun y => (mapO f xs).bind fun ys => some (y :: ys)

/-- A value under new names. -/
def invV (G : Nat) (l : List Nat) : Nat → Value → Option Value
  | _, .bool b => some (.bool b)
  | _, .int k n => some (.int k n)
  | _, .string s => some (.string s)
  | _, .pointer none => some (.pointer none)
  | _, .pointer (some ⟨b, off, none⟩) => (nameIx G l b).map fun i => .pointer (some ⟨i, off, none⟩)
  | _, .slice none 0 0 => some (.slice none 0 0)
  | _, .slice (some ⟨b, off, none⟩) n sz => match nameIx G l b with
    | some i => some (.slice (some ⟨i, off, none⟩) n sz)
    | none => match n, sz with
      | 0, 0 => some (.slice (some ⟨0, 0, none⟩) 0 0)
      | _, _ => none
  | _, .map none => some (.map none)
  | _, .map (some b) => (nameIx G l b).map fun i => .map (some i)
  | _, .nilFunc => some .nilFunc
  | _, .nilIface => some .nilIface
  | _, .chan none => some (.chan none)
  | d + 1, .func fn xs ys => (mapO (invV G l d) xs.toList).bind fun us => (mapO (invV G l d) ys.toList).bind fun vs => some (.func fn us.toArray vs.toArray)
  | d + 1, .iface t x => (invV G l d x).map (.iface t)
  | d + 1, .agg cs => (mapO (invV G l d) cs.toList).map fun us => .agg us.toArray
  | _, _ => none

theorem mapO_get {f : Value → Option Value} : ∀ {xs ys : List Value}, mapO f xs = some ys → ys.length = xs.length ∧ ∀ (i : Nat) (y : Value), ys[i]? = some y → ∃ x, xs[i]? = some x ∧ f x = some y
  | [], ys, e => by simp [mapO] at e; subst e; simp
  | x :: xs, ys, e => by
    simp only [mapO, Option.bind_eq_some_iff, Option.some.injEq] at e
    obtain ⟨z, hz, zs, hzs, rfl⟩ := e
    obtain ⟨h1, h2⟩ := mapO_get hzs
    refine ⟨by simp [h1], ?_⟩
    intro i y hy
    cases i with
    | zero => simp at hy; subst hy; exact ⟨x, rfl, hz⟩
    | succ i => simpa using h2 i y (by simpa using hy)

theorem inv_one {G : Nat} {l : List Nat} {d : Nat} {x y : Value} (e : invV G l d x = some y) (h : one x = true) : one y = true := by
  unfold invV at e
  split at e <;> first
    | (injection e with e; subst e; rfl)
    | (simp only [Option.map_eq_some_iff] at e; obtain ⟨_, _, rfl⟩ := e; first | rfl | (simp [one] at h))
    | (simp only [Option.bind_eq_some_iff, Option.some.injEq] at e; obtain ⟨_, _, _, _, rfl⟩ := e; rfl)
    | (simp at e; done)
    | (split at e
       · injection e with e; subst e; rfl
       · split at e
         · injection e with e; subst e; rfl
         · simp at e)

/-- The names of a renaming name what they named. -/
def Ix (G : Nat) (l : List Nat) (m m0 : MapN) : Prop := ∀ b i, nameIx G l b = some i → m0 i = m b

theorem VL.of_mapO {f : Value → Option Value} (hf : ∀ {x y z : Value}, V m S x y → f x = some z → V m0 S z y) : ∀ {xs ys zs : List Value}, VL m S xs ys → mapO f xs = some zs → VL m0 S zs ys
  | [], _, _, .nil, e => by simp [mapO] at e; subst e; exact .nil
  | x :: xs, _, zs, .cons hv ht, e => by
    simp only [mapO, Option.bind_eq_some_iff, Option.some.injEq] at e
    obtain ⟨z, hz, zs', hzs, rfl⟩ := e
    exact .cons (hf hv hz) (VL.of_mapO hf ht hzs)

theorem inv_V {G : Nat} {l : List Nat} (hm : Ix G l m m0) : ∀ (d : Nat) {x y z : Value}, V m S x y → invV G l d x = some z → V m0 S z y := by
  intro d
  induction d with
  | zero =>
    intro x y z hv e
    cases hv <;> (try simp only [invV] at e) <;> first
      | (injection e with e; subst e; constructor; done)
      | (injection e with e; subst e; exact .junk (by assumption))
      | (simp at e; done)
      | skip
    · rename_i h1
      simp only [Option.map_eq_some_iff] at e
      obtain ⟨i, hi, rfl⟩ := e
      exact .ptr (by rw [hm _ _ hi]; exact h1)
    · rename_i h1 hn hz hc
      split at e
      · rename_i i hi
        injection e with e; subst e
        exact .slice (by rw [hm _ _ hi]; exact h1) hn hz hc
      · split at e
        · omega
        · simp at e
    · rename_i a1 a2 sz
      obtain ⟨b, off, sp⟩ := a1
      cases sp with
      | some _ => simp [invV] at e
      | none =>
        simp only [invV] at e
        split at e
        · injection e with e; subst e; exact .sempty
        · split at e
          · injection e with e; subst e; exact .sempty
          · simp at e
    · rename_i a1 sz hz
      obtain ⟨b, off, sp⟩ := a1
      cases sp with
      | some _ => simp [invV] at e
      | none =>
        simp only [invV] at e
        split at e
        · injection e with e; subst e; exact .sghost hz
        · split at e
          · omega
          · simp at e
    · rename_i h1
      simp only [Option.map_eq_some_iff] at e
      obtain ⟨i, hi, rfl⟩ := e
      exact .map (by rw [hm _ _ hi]; exact h1)
  | succ d ih =>
    intro x y z hv e
    cases hv <;> (try simp only [invV] at e) <;> first
      | (injection e with e; subst e; constructor; done)
      | (injection e with e; subst e; exact .junk (by assumption))
      | (simp at e; done)
      | skip
    · rename_i h1
      simp only [Option.map_eq_some_iff] at e
      obtain ⟨i, hi, rfl⟩ := e
      exact .ptr (by rw [hm _ _ hi]; exact h1)
    · rename_i h1 hn hz hc
      split at e
      · rename_i i hi
        injection e with e; subst e
        exact .slice (by rw [hm _ _ hi]; exact h1) hn hz hc
      · split at e
        · omega
        · simp at e
    · rename_i a1 a2 sz
      obtain ⟨b, off, sp⟩ := a1
      cases sp with
      | some _ => simp [invV] at e
      | none =>
        simp only [invV] at e
        split at e
        · injection e with e; subst e; exact .sempty
        · split at e
          · injection e with e; subst e; exact .sempty
          · simp at e
    · rename_i a1 sz hz
      obtain ⟨b, off, sp⟩ := a1
      cases sp with
      | some _ => simp [invV] at e
      | none =>
        simp only [invV] at e
        split at e
        · injection e with e; subst e; exact .sghost hz
        · split at e
          · omega
          · simp at e
    · rename_i h1
      simp only [Option.map_eq_some_iff] at e
      obtain ⟨i, hi, rfl⟩ := e
      exact .map (by rw [hm _ _ hi]; exact h1)
    · rename_i h1 h2
      simp only [Option.bind_eq_some_iff, Option.some.injEq] at e
      obtain ⟨us, e1, vs, e2, rfl⟩ := e
      exact .func (VL.of_mapO ih h1 (by simpa using e1)) (VL.of_mapO ih h2 (by simpa using e2))
    · rename_i h1
      simp only [Option.map_eq_some_iff] at e
      obtain ⟨u, e1, rfl⟩ := e
      exact .iface (ih h1 e1)
    · rename_i h1 ho
      simp only [Option.map_eq_some_iff] at e
      obtain ⟨us, e1, rfl⟩ := e
      refine .agg (VL.of_mapO ih h1 (by simpa using e1)) ?_
      intro u hu
      obtain ⟨i, hi⟩ := List.mem_iff_getElem?.1 hu
      obtain ⟨x, hx, hxu⟩ := (mapO_get e1).2 i u (by simpa using hi)
      exact inv_one hxu (ho x (List.mem_of_getElem? hx))

/-! The heap under new names. -/

def heapB (G : Nat) (bs : List (Option ABlk)) : AHeap := bs.foldl (fun h b => match b with
  | some b => h.new b
  | none => { next := h.next + 1, tr := h.tr }) { next := G, tr := .leaf }

theorem heapB_fold : ∀ (bs : List (Option ABlk)) (h : AHeap), (∀ j, h.next ≤ j → h.get j = none) →
    (bs.foldl (fun h b => match b with | some b => AHeap.new h b | none => { next := h.next + 1, tr := h.tr }) h).next = h.next + bs.length ∧
    ∀ j, (bs.foldl (fun h b => match b with | some b => AHeap.new h b | none => { next := h.next + 1, tr := h.tr }) h).get j = if j < h.next then h.get j else (bs[j - h.next]?).join
  | [], h, hn => ⟨rfl, fun j => by
      simp only [List.foldl_nil]
      split
      · rfl
      · rw [hn j (by omega)]; simp⟩
  | c :: bs, h, hn => by
    rw [List.foldl_cons]
    have key : ∀ h1 : AHeap, h1.next = h.next + 1 → (∀ j, h1.get j = if j = h.next then c else h.get j) →
        (bs.foldl (fun h b => match b with | some b => AHeap.new h b | none => { next := h.next + 1, tr := h.tr }) h1).next = h.next + (c :: bs).length ∧
        ∀ j, (bs.foldl (fun h b => match b with | some b => AHeap.new h b | none => { next := h.next + 1, tr := h.tr }) h1).get j = if j < h.next then h.get j else ((c :: bs)[j - h.next]?).join := by
      intro h1 e1 e2
      obtain ⟨k1, k2⟩ := heapB_fold bs h1 (fun j hj => by rw [e2, if_neg (by omega)]; exact hn j (by omega))
      refine ⟨by rw [k1, e1, List.length_cons]; omega, fun j => ?_⟩
      rw [k2, e1]
      by_cases hj : j < h.next
      · rw [if_pos (by omega), if_pos hj, e2, if_neg (by omega)]
      · rw [if_neg hj]
        by_cases hj2 : j = h.next
        · subst hj2
          rw [if_pos (by omega), e2, if_pos rfl]
          simp
        · rw [if_neg (by omega)]
          have : j - h.next = (j - (h.next + 1)) + 1 := by omega
          rw [this, List.getElem?_cons_succ]
    cases c with
    | some b => exact key (h.new b) rfl (fun j => AHeap.get_new _ _ _)
    | none => exact key { next := h.next + 1, tr := h.tr } rfl (fun j => by
        by_cases hj : j = h.next
        · rw [if_pos hj]; subst hj; exact hn _ (Nat.le_refl _)
        · rw [if_neg hj]; rfl)

theorem heapB_next (G : Nat) (bs : List (Option ABlk)) : (heapB G bs).next = G + bs.length := (heapB_fold bs { next := G, tr := .leaf } (fun _ _ => rfl)).1
theorem heapB_get (G : Nat) (bs : List (Option ABlk)) (j : Nat) : (heapB G bs).get j = if j < G then none else (bs[j - G]?).join := by
  have := (heapB_fold bs { next := G, tr := .leaf } (fun _ _ => rfl)).2 j
  unfold heapB
  rw [this]
  rfl

theorem heapB_ty (G : Nat) (bs : List (Option ABlk)) : (heapB G bs).ty = [] := by
  have key : ∀ (bs : List (Option ABlk)) (h : AHeap), h.ty = [] → (bs.foldl (fun h b => match b with | some b => AHeap.new h b | none => { next := h.next + 1, tr := h.tr }) h).ty = [] := by
    intro bs
    induction bs with
    | nil => intro h hh; exact hh
    | cons b bs ih =>
      intro h hh
      rw [List.foldl_cons]
      apply ih
      cases b with
      | none => rfl
      | some b => exact hh
  exact key bs _ rfl

/-- A value that names nothing, or of which nothing is known. -/
def plainJ (x : Value) : Bool := match x with
  | .chan none => true
  | x => plainD 3 x
def PlainL (cs : List Value) : Prop := ∀ x ∈ cs, plainJ x = true
def plainB : ABlk → Prop
  | .cells cs _ => PlainL cs
  | .map es => PlainL (es.map (·.1)) ∧ PlainL (es.map (·.2))

def invB (G : Nat) (l : List Nat) : ABlk → Option ABlk
  | .cells cs rw => (mapO (invV G l 4) cs).map fun us => .cells us rw
  | .map es => (mapO (invV G l 4) (es.map (·.1))).bind fun ks => (mapO (invV G l 4) (es.map (·.2))).bind fun vs => some (.map (ks.zip vs))

/-- The blocks of a list of names, each where it is named last; a flag tells what names nothing. -/
def blkIx (G : Nat) (l : List Nat) (h : AHeap) (i : Nat) (p : Nat × Bool) : Option ABlk := match nameIx G l p.1 with
  | some j => bif Nat.beq i j then match h.get p.1 with
    | some x => bif p.2 then some x else invB G l x
    | none => none
    else none
  | none => none
def canonB (G : Nat) (l : List Nat) (h : AHeap) : Nat → List (Nat × Bool) → List (Option ABlk)
  | _, [] => []
  | i, p :: r => blkIx G l h i p :: canonB G l h (i + 1) r
def oblB (h : AHeap) : List (Nat × Bool) → Prop
  | [] => True
  | (b, f) :: r => match f with
    | false => oblB h r
    | true => match h.get b with
      | some x => plainB x ∧ oblB h r
      | none => oblB h r

theorem canonB_get (G : Nat) (l : List Nat) (h : AHeap) : ∀ (r : List (Nat × Bool)) (i j : Nat), (canonB G l h i r)[j]? = (r[j]?).map (blkIx G l h (i + j))
  | [], i, j => by simp [canonB]
  | p :: r, i, j => by
    cases j with
    | zero => simp [canonB]
    | succ j =>
      have := canonB_get G l h r (i + 1) j
      simp only [canonB, List.getElem?_cons_succ, this]
      congr 2
      omega
theorem canonB_len (G : Nat) (l : List Nat) (h : AHeap) : ∀ (r : List (Nat × Bool)) (i : Nat), (canonB G l h i r).length = r.length
  | [], _ => rfl
  | p :: r, i => by simp [canonB, canonB_len G l h r (i + 1)]
theorem oblB_get {h : AHeap} : ∀ {r : List (Nat × Bool)}, oblB h r → ∀ b, (b, true) ∈ r → ∀ x, h.get b = some x → plainB x
  | [], _, b, hm, _, _ => by simp at hm
  | (c, f) :: r, ho, b, hm, x, hx => by
    cases f with
    | false =>
      rcases List.mem_cons.1 hm with hh | hh
      · simp at hh
      · exact oblB_get (r := r) ho b hh x hx
    | true =>
      simp only [oblB] at ho
      rcases List.mem_cons.1 hm with hh | hh
      · simp only [Prod.mk.injEq, and_true] at hh
        subst hh
        rw [hx] at ho
        exact ho.1
      · split at ho
        · exact oblB_get ho.2 b hh x hx
        · exact oblB_get ho b hh x hx

/-- What the new names name. -/
def mIx (G : Nat) (l : List Nat) (m : MapN) : MapN := fun i => if i < G then m i else (l[i - G]?).bind m

theorem ixOf_get {b : Nat} : ∀ {l : List Nat} {i j : Nat}, ixOf b l i = some j → i ≤ j ∧ l[j - i]? = some b
  | [], i, j, e => by simp [ixOf] at e
  | x :: l, i, j, e => by
    simp only [ixOf] at e
    split at e
    · rename_i k hk
      injection e with e
      subst e
      obtain ⟨h1, h2⟩ := ixOf_get hk
      refine ⟨by omega, ?_⟩
      have : k - i = (k - (i + 1)) + 1 := by omega
      rw [this, List.getElem?_cons_succ]
      exact h2
    · cases hb : Nat.beq x b with
      | true =>
        rw [hb] at e
        simp only [cond_true, Option.some.injEq] at e
        subst e
        refine ⟨Nat.le_refl _, ?_⟩
        rw [Nat.sub_self, List.getElem?_cons_zero, Nat.eq_of_beq_eq_true hb]
      | false => rw [hb] at e; simp at e
theorem nameIx_get {G : Nat} {l : List Nat} {b i : Nat} (e : nameIx G l b = some i) : (b < G ∧ i = b) ∨ (¬ b < G ∧ ¬ i < G ∧ l[i - G]? = some b) := by
  unfold nameIx at e
  cases hb : Nat.blt b G with
  | true =>
    rw [hb] at e
    simp only [cond_true, Option.some.injEq] at e
    exact .inl ⟨Nat.le_of_ble_eq_true hb, e.symm⟩
  | false =>
    rw [hb] at e
    obtain ⟨h1, h2⟩ := ixOf_get e
    refine .inr ⟨?_, by omega, h2⟩
    intro hlt
    have : Nat.blt b G = true := Nat.ble_eq_true_of_le hlt
    rw [this] at hb; simp at hb
theorem ix_mIx (G : Nat) (l : List Nat) (m : MapN) : Ix G l m (mIx G l m) := by
  intro b i e
  unfold mIx
  rcases nameIx_get e with ⟨h1, rfl⟩ | ⟨h1, h2, h3⟩
  · rw [if_pos h1]
  · rw [if_neg h2, h3]; rfl

theorem V.plain_any (n : Nat) {x y : Value} (h : V m S x y) (hp : plainD n x = true) : V m0 S x y := by
  rw [V.plain n h hp]; exact V.of_plain n hp
theorem VL.plain_any (n : Nat) {xs ys : List Value} (h : VL m S xs ys) (hp : ∀ x ∈ xs, plainD n x = true) : VL m0 S xs ys := by
  rw [VL.plain n h hp]; exact VL.of_plain n hp

theorem VL.of_zip {ks vs : List Value} (hl : ks.length = vs.length) : (ks.zip vs).map (·.1) = ks ∧ (ks.zip vs).map (·.2) = vs := by
  induction ks generalizing vs with
  | nil => cases vs with
    | nil => simp
    | cons => simp at hl
  | cons k ks ih => cases vs with
    | nil => simp at hl
    | cons v vs =>
      obtain ⟨h1, h2⟩ := ih (vs := vs) (by simpa using hl)
      simp [h1, h2]

theorem V.plainJ {x y : Value} (h : V m S x y) (hp : Agm.plainJ x = true) : V m0 S x y := by
  unfold Agm.plainJ at hp
  split at hp
  · cases h with
    | junk h => exact .junk h
  · exact h.plain_any 3 hp
theorem VL.plainJ {xs ys : List Value} (h : VL m S xs ys) (hp : ∀ x ∈ xs, Agm.plainJ x = true) : VL m0 S xs ys := by
  induction xs generalizing ys with
  | nil => cases h; exact .nil
  | cons x xs ih =>
    cases h with
    | cons h t => exact .cons (h.plainJ (hp x (by simp))) (ih t fun z hz => hp z (by simp [hz]))

/-- A block under new names. -/
theorem inv_cells {G : Nat} {l : List Nat} (hm : Ix G l m m0) {cs us : List Value} (e : mapO (invV G l 4) cs = some us) {C : Array Value} {bs : Nat} (hv : VAt m S cs C bs) : VAt m0 S us C bs := by
  obtain ⟨h1, h2, h3⟩ := hv
  obtain ⟨k1, k2⟩ := mapO_get e
  refine ⟨by omega, ?_, ?_⟩
  · intro u hu
    obtain ⟨i, hi⟩ := List.mem_iff_getElem?.1 hu
    obtain ⟨x, hx, hxu⟩ := k2 i u hi
    exact inv_one hxu (h2 x (List.mem_of_getElem? hx))
  · rw [k1]
    exact VL.of_mapO (inv_V hm 4) h3 e

/-- Where a block under a new name comes from. -/
theorem canon_get {G : Nat} {l : List (Nat × Bool)} (ho : oblB h l) : ∀ i x, (heapB G (canonB G (l.map (·.1)) h G l)).get i = some x →
      ∃ b f y, (b, f) ∈ l ∧ nameIx G (l.map (·.1)) b = some i ∧ h.get b = some y ∧ (if f = true then x = y ∧ plainB y else invB G (l.map (·.1)) y = some x) := by
  intro i x e
  rw [heapB_get] at e
  split at e
  · simp at e
  · rename_i hi
    rw [canonB_get] at e
    cases hl : l[i - G]? with
    | none => rw [hl] at e; simp at e
    | some p =>
      rw [hl] at e
      have hmem := List.mem_of_getElem? hl
      obtain ⟨b, f⟩ := p
      have hi2 : G + (i - G) = i := by omega
      rw [hi2] at e
      have e : blkIx G (l.map (·.1)) h i (b, f) = some x := by simpa using e
      unfold blkIx at e
      simp only at e
      split at e
      · rename_i j hj
        cases hij : Nat.beq i j with
        | false => rw [hij] at e; simp at e
        | true =>
          have := Nat.eq_of_beq_eq_true hij
          subst this
          rw [hij] at e
          simp only [cond_true] at e
          split at e
          · rename_i y hy
            refine ⟨b, f, y, hmem, hj, hy, ?_⟩
            cases f with
            | true => simp only [cond_true, Option.some.injEq] at e; subst e; exact ⟨rfl, oblB_get ho b hmem y hy⟩
            | false => simpa using e
          · simp at e
      · simp at e

theorem HRel.canon (hr : HRel P w0 m E h w) {l : List (Nat × Bool)} (ho : oblB h l) : HRel P w0 (mIx P.globals.size (l.map (·.1)) m) E (heapB P.globals.size (canonB P.globals.size (l.map (·.1)) h P.globals.size l)) w := by
  have hix := ix_mIx P.globals.size (l.map (·.1)) m
  have hget := canon_get (G := P.globals.size) ho
  refine ⟨hr.base, hr.out, hr.ext, ?_, ?_, ?_, ?_, ?_, ?_, fun b t e => by rw [heapB_ty] at e; simp at e⟩
  · intro g hg
    simp only [mIx, if_pos hg]
    exact hr.glob g hg
  · intro b B bs e
    rw [heapB_next, canonB_len]
    unfold mIx at e
    split at e
    · exact ⟨(hr.lt _ _ _ e).1, by omega⟩
    · rename_i hb
      cases hl : (l.map (·.1))[b - P.globals.size]? with
      | none => rw [hl] at e; simp at e
      | some x =>
        rw [hl] at e
        have := (List.getElem?_eq_some_iff.1 hl).1
        rw [List.length_map] at this
        exact ⟨(hr.lt _ _ _ e).1, by omega⟩
  · intro i x e
    obtain ⟨b, f, y, hmem, hb, hy, _⟩ := hget i x e
    rw [heapB_next, canonB_len]
    rcases nameIx_get hb with ⟨h1, h2⟩ | ⟨h1, h2, h3⟩
    · omega
    · have := (List.getElem?_eq_some_iff.1 h3).1
      rw [List.length_map] at this
      omega
  · intro i cs rw e
    obtain ⟨b, f, y, _, hb, hy, hc⟩ := hget i _ e
    cases f with
    | true =>
      obtain ⟨rfl, hp⟩ := by simpa using hc
      rcases hr.cells b cs rw hy with ⟨g1, g2, g3⟩ | ⟨B, bs, C, el, fz, k1, k2, k3, k4, k5⟩
      · exact .inl ⟨g1, g2, by rw [hix b i hb]; exact g3⟩
      exact .inr ⟨B, bs, C, el, fz, by rw [hix b i hb]; exact k1, k2, ⟨k3.1, k3.2.1, VL.plainJ k3.2.2 hp⟩, k4, k5⟩
    | false =>
      have hc : invB P.globals.size (l.map (·.1)) y = some (.cells cs rw) := by simpa using hc
      cases y with
      | map es => simp only [invB, Option.bind_eq_some_iff, Option.some.injEq] at hc; obtain ⟨_, _, _, _, hc⟩ := hc; simp at hc
      | cells us rw' =>
        simp only [invB, Option.map_eq_some_iff, ABlk.cells.injEq] at hc
        obtain ⟨us', k0, rfl, rfl⟩ := hc
        rcases hr.cells b us rw' hy with ⟨g1, g2, g3⟩ | ⟨B, bs, C, el, fz, k1, k2, k3, k4, k5⟩
        · subst g1
          simp only [mapO, Option.some.injEq] at k0
          exact .inl ⟨k0.symm, g2, by rw [hix b i hb]; exact g3⟩
        exact .inr ⟨B, bs, C, el, fz, by rw [hix b i hb]; exact k1, k2, inv_cells hix k0 k3, k4, k5⟩
  · intro i es e
    obtain ⟨b, f, y, _, hb, hy, hc⟩ := hget i _ e
    cases f with
    | true =>
      obtain ⟨rfl, hp1, hp2⟩ := by simpa [plainB] using hc
      obtain ⟨B, en, cl, k1, k2, k3, k4, k5⟩ := hr.maps b es hy
      exact ⟨B, en, cl, by rw [hix b i hb]; exact k1, k2, k3, VL.plainJ k4 (by simpa [PlainL] using hp1), VL.plainJ k5.1 (by simpa [PlainL] using hp2), k5.2⟩
    | false =>
      have hc : invB P.globals.size (l.map (·.1)) y = some (.map es) := by simpa using hc
      cases y with
      | cells us rw' => simp only [invB, Option.map_eq_some_iff] at hc; obtain ⟨_, _, hc⟩ := hc; simp at hc
      | map us =>
        simp only [invB, Option.bind_eq_some_iff, Option.some.injEq, ABlk.map.injEq] at hc
        obtain ⟨ks, e1, vs, e2, rfl⟩ := hc
        obtain ⟨B, en, cl, k1, k2, k3, k4, k5⟩ := hr.maps b us hy
        obtain ⟨z1, z2⟩ := VL.of_zip (ks := ks) (vs := vs) (by rw [(mapO_get e1).1, (mapO_get e2).1]; simp)
        exact ⟨B, en, cl, by rw [hix b i hb]; exact k1, k2, k3, by rw [z1]; exact VL.of_mapO (inv_V hix 4) k4 e1, by rw [z2]; exact VL.of_mapO (inv_V hix 4) k5.1 e2, k5.2⟩
  · intro i j x y B bs bs' e1 e2 n1 n2 hown
    obtain ⟨b, f, u, hbm, hb, hu, hc⟩ := hget i _ e1
    obtain ⟨b', f', u', hbm', hb', hu', hc'⟩ := hget j _ e2
    rw [hix b i hb] at n1
    rw [hix b' j hb'] at n2
    have hown' : u.own = true := by
      cases f with
      | true => obtain ⟨rfl, _⟩ := by simpa using hc
                exact hown
      | false =>
        have hc : invB P.globals.size (l.map (·.1)) u = some x := by simpa using hc
        cases u with
        | map es => rfl
        | cells us rw' =>
          simp only [invB, Option.map_eq_some_iff] at hc
          obtain ⟨_, _, rfl⟩ := hc
          exact hown
    have := hr.inj b b' u u' B bs bs' hu hu' n1 n2 hown'
    subst this
    rw [hb] at hb'
    injection hb'

/-! Types of blocks beside new names. -/

abbrev Tys := List (Nat × TypeId)
def heapT (G : Nat) (bs : List (Option ABlk)) (tys : Tys) : AHeap := match tys with
  | [] => heapB G bs
  | p :: r => { next := (heapB G bs).next, tr := (heapB G bs).tr, ty := p :: r }
def tyG (G : Nat) (l : Tys) : Tys := l.map fun p => (G + p.1, p.2)
/-- Are the types of some names of a list known? -/
def tysOk (h : AHeap) (l : List Nat) (tys : Tys) : Bool := tys.all fun p => match l[p.1]? with
  | some b => h.tyOf b p.2
  | none => false
theorem heapT_next (G : Nat) (bs : List (Option ABlk)) (tys : Tys) : (heapT G bs tys).next = G + bs.length := by cases tys <;> exact heapB_next G bs
theorem heapT_get (G : Nat) (bs : List (Option ABlk)) (tys : Tys) (j : Nat) : (heapT G bs tys).get j = (heapB G bs).get j := by cases tys <;> rfl
theorem heapT_ty (G : Nat) (bs : List (Option ABlk)) (tys : Tys) : (heapT G bs tys).ty = tys := by
  cases tys with
  | nil => exact heapB_ty G bs
  | cons p r => rfl
theorem HRel.heapT {G : Nat} {bs : List (Option ABlk)} {tys : Tys} (hr : HRel P w0 m E (heapB G bs) w) (ht : ∀ p ∈ tys, TyAt m w p.1 p.2) : HRel P w0 m E (Agm.heapT G bs tys) w := by
  cases tys with
  | nil => exact hr
  | cons p r => exact ⟨hr.base, hr.out, hr.ext, hr.glob, hr.lt, hr.dom, hr.cells, hr.maps, hr.inj, fun b t e => ht (b, t) e⟩
theorem Rel.heapT {G : Nat} {bs : List (Option ABlk)} {tys : Tys} (hr : Rel P w0 m E fr (heapB G bs) a w) (ht : ∀ p ∈ tys, TyAt m w p.1 p.2) : Rel P w0 m E fr (Agm.heapT G bs tys) a w := by
  refine ⟨hr.hr.heapT ht, hr.fr.move (MLe.refl m) (fun _ => Nat.le_refl _) (fun _ _ => rfl) (fun B hl i x bs' e n => ?_)⟩
  obtain ⟨C, el, fz, _, _, _, h6⟩ := hr.fr.local_some hl
  rw [heapT_get] at e
  exact h6 i x bs' e n
theorem tys_known (hr : HRel P w0 m E h w) {l : List Nat} {tys : Tys} (hk : tysOk h l tys = true) : ∀ p ∈ tyG P.globals.size tys, TyAt (mIx P.globals.size l m) w p.1 p.2 := by
  intro p hp
  unfold tyG at hp
  rw [List.mem_map] at hp
  obtain ⟨q, hq, rfl⟩ := hp
  unfold tysOk at hk
  rw [List.all_eq_true] at hk
  have := hk q hq
  cases hl : l[q.1]? with
  | none => rw [hl] at this; simp at this
  | some b =>
    rw [hl] at this
    obtain ⟨B, C, fz, h1, h2⟩ := hr.ty b q.2 (AHeap.tyOf_mem this)
    refine ⟨B, C, fz, ?_, h2⟩
    have h3 : P.globals.size + q.1 - P.globals.size = q.1 := by omega
    simp only [mIx, if_neg (show ¬ P.globals.size + q.1 < P.globals.size by omega), h3, hl, Option.bind_some]
    exact h1

/-! Frames. -/

def invA (G : Nat) (l : List Nat) : AV → AV
  | .v x => match invV G l 4 x with
    | some y => .v y
    | none => .dead
  | .tup xs => match mapO (invV G l 4) xs with
    | some ys => .tup ys
    | none => .dead
  | .blk cs => match mapO (invV G l 4) cs with
    | some us => .blk us
    | none => .dead
  | .ref s off => .ref s off
  | .dead => .dead

theorem invA_blk {G : Nat} {l : List Nat} {x : AV} {us : List Value} (e : invA G l x = .blk us) : ∃ cs, x = .blk cs ∧ mapO (invV G l 4) cs = some us := by
  cases x with
  | v x => simp only [invA] at e; split at e <;> simp at e
  | tup xs => simp only [invA] at e; split at e <;> simp at e
  | blk cs =>
    simp only [invA] at e
    split at e
    · rename_i vs hv
      simp only [AV.blk.injEq] at e
      subst e
      exact ⟨cs, rfl, hv⟩
    · simp at e
  | ref s off => simp [invA] at e
  | dead => simp [invA] at e

theorem Rel.canon (hr : Rel P w0 m E fr h a w) {l : List (Nat × Bool)} (ho : oblB h l) :
    Rel P w0 (mIx P.globals.size (l.map (·.1)) m) E (fr.map (invA P.globals.size (l.map (·.1)))) (heapB P.globals.size (canonB P.globals.size (l.map (·.1)) h P.globals.size l)) a w := by
  have hix := ix_mIx P.globals.size (l.map (·.1)) m
  have hh := hr.hr.canon ho
  refine ⟨hh, hr.fr.defers, by rw [List.length_map]; exact hr.fr.len, ?_, ?_⟩
  · intro i y e
    rw [List.getElem?_map, Option.map_eq_some_iff] at e
    obtain ⟨x, hx, rfl⟩ := e
    have := hr.fr.slot i x hx
    cases x with
    | v x =>
      simp only [invA]
      split
      · rename_i z hz
        exact inv_V hix 4 this hz
      · trivial
    | tup xs =>
      simp only [invA]
      split
      · rename_i z hz
        obtain ⟨vs, k1, k2⟩ := this
        exact ⟨vs, k1, VL.of_mapO (inv_V hix 4) k2 hz⟩
      · trivial
    | blk cs =>
      simp only [invA]
      split
      · rename_i z hz
        obtain ⟨B, C, el, fz, k1, k2, k3, k4, k5, k6⟩ := this
        refine ⟨B, C, el, fz, k1, k2, inv_cells hix hz k3, k4, k5, ?_⟩
        intro b y bs e2 e3
        rw [heapB_get] at e2
        split at e2
        · simp at e2
        · rename_i hb
          rw [canonB_get] at e2
          cases hl : l[b - P.globals.size]? with
          | none => rw [hl] at e2; simp at e2
          | some p =>
            rw [hl] at e2
            have hi2 : P.globals.size + (b - P.globals.size) = b := by omega
            rw [hi2] at e2
            have e2 : blkIx P.globals.size (l.map (·.1)) h b p = some y := by simpa using e2
            unfold blkIx at e2
            split at e2
            · rename_i j hj
              cases hij : Nat.beq b j with
              | false => rw [hij] at e2; simp at e2
              | true =>
                have := Nat.eq_of_beq_eq_true hij
                subst this
                rw [hij] at e2
                simp only [cond_true] at e2
                split at e2
                · rename_i y' hy'
                  rw [hix _ _ hj] at e3
                  exact k6 _ _ _ hy' e3
                · simp at e2
            · simp at e2
      · trivial
    | ref s off =>
      intro cs hcs
      rw [List.getElem?_map, Option.map_eq_some_iff] at hcs
      obtain ⟨z, hz, hz2⟩ := hcs
      obtain ⟨cs', rfl, _⟩ := invA_blk hz2
      exact this cs' hz
    | dead => trivial
  · intro i j c1 c2 B e1 e2
    rw [List.getElem?_map, Option.map_eq_some_iff] at e1 e2
    obtain ⟨x1, hx1, hy1⟩ := e1
    obtain ⟨x2, hx2, hy2⟩ := e2
    obtain ⟨d1, rfl, _⟩ := invA_blk hy1
    obtain ⟨d2, rfl, _⟩ := invA_blk hy2
    exact hr.fr.dis i j d1 d2 B hx1 hx2

end Go.Agm
