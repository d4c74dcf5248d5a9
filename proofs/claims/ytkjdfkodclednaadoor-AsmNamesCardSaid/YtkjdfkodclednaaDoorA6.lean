/- An abstract machine for one goroutine: frames and heaps beside the model's, step by step. No condition. -/
import Derived.Test.YtkjdfkodclednaaDoorA5
namespace Go.Agm

variable {P : Program} {w0 : World} {m m' : MapN} {E : Nat → Prop} {fr : List AV} {h : AHeap} {a : Act} {w w' : World}

theorem getF_some {t : Nat} {x : AV} (e : getF fr t = x) (hx : x ≠ .dead) : fr[t]? = some x := by
  unfold getF at e
  rw [List.getD_eq_getElem?_getD] at e
  cases hf : fr[t]? with
  | none => rw [hf] at e; simp at e; exact absurd e.symm hx
  | some y => rw [hf] at e; simp at e; rw [e]

theorem FRel.v (hf : FRel m E fr h a w) {t : Nat} {x : Value} (e : getF fr t = .v x) : V m (szB w) x (a.tmps.getD t undef) := hf.slot t _ (getF_some e (by simp))
theorem FRel.tup (hf : FRel m E fr h a w) {t : Nat} {xs : List Value} (e : getF fr t = .tup xs) : ∃ vs : Array Value, a.tmps.getD t undef = .tuple vs ∧ VL m (szB w) xs vs.toList := hf.slot t _ (getF_some e (by simp))
theorem FRel.blk (hf : FRel m E fr h a w) {t : Nat} {cs : List Value} (e : getF fr t = .blk cs) :
    ∃ B C el fz, a.tmps.getD t undef = .pointer (some ⟨B, 0, none⟩) ∧ w.heap[B]? = some (.cells C el fz) ∧ VAt m (szB w) cs C 0 ∧ Free C fz ∧ ¬ E B ∧ ∀ b x bs, h.get b = some x → m b ≠ some (B, bs) := hf.slot t _ (getF_some e (by simp))
theorem FRel.ref (hf : FRel m E fr h a w) {t s off : Nat} {cs : List Value} (e : getF fr t = .ref s off) (e' : getF fr s = .blk cs) :
    ∃ B, a.tmps.getD s undef = .pointer (some ⟨B, 0, none⟩) ∧ a.tmps.getD t undef = .pointer (some ⟨B, off, none⟩) := hf.slot t _ (getF_some e (by simp)) cs (getF_some e' (by simp))

theorem opA_tmp {x : Operand} {y : AV} (e : opA P fr x = y) (h1 : ∀ z, y ≠ .v z) (h2 : y ≠ .dead) : ∃ t, x = .tmp t ∧ getF fr t = y := by
  cases x with
  | tmp t => exact ⟨t, rfl, e⟩
  | const c => simp only [opA] at e; cases hp : plainD 4 c <;> rw [hp] at e <;> simp at e <;> subst e <;> simp_all
  | global g => simp only [opA] at e; cases hp : Nat.blt g P.globals.size <;> rw [hp] at e <;> simp at e <;> subst e <;> simp_all
  | func f => simp only [opA] at e; subst e; simp at h1

theorem Rel.eval (hr : Rel P w0 m E fr h a w) {x : Operand} {y : Value} (e : opA P fr x = .v y) : V m (szB w) y (a.eval x) := by
  cases x with
  | tmp t => exact hr.fr.v e
  | const c =>
    simp only [opA] at e
    cases hp : plainD 4 c with
    | true => rw [hp] at e; simp at e; subst e; exact V.of_plain 4 hp
    | false => rw [hp] at e; simp at e
  | global g =>
    simp only [opA] at e
    cases hp : Nat.blt g P.globals.size with
    | true =>
      rw [hp] at e; simp at e; subst e
      have := V.ptr (m := m) (S := szB w) (off := 0) (hr.hr.glob g (by simpa [Nat.blt_eq] using hp))
      simpa [Act.eval] using this
    | false => rw [hp] at e; simp at e
  | func f => simp only [opA] at e; injection e with e; subst e; exact .func .nil .nil

theorem valA_opA {x : Operand} {y : Value} (e : valA P fr x = some y) : opA P fr x = .v y := by
  unfold valA at e
  split at e
  · rename_i z hz; injection e with e; subst e; exact hz
  · simp at e

theorem Rel.val (hr : Rel P w0 m E fr h a w) {x : Operand} {y : Value} (e : valA P fr x = some y) : V m (szB w) y (a.eval x) := hr.eval (valA_opA e)

theorem Rel.vals (hr : Rel P w0 m E fr h a w) : ∀ {os : List Operand} {ys : List Value}, valsA P fr os = some ys → VL m (szB w) ys (os.map a.eval)
  | [], ys, e => by simp [valsA] at e; subst e; exact .nil
  | o :: os, ys, e => by
    simp only [valsA, Option.bind_eq_some_iff] at e
    obtain ⟨x, hx, xs, hxs, e⟩ := e
    injection e with e; subst e
    exact .cons (hr.val hx) (hr.vals hxs)

/-! Worlds that have grown. -/

structure Ext (w w' : World) : Prop where
  os : w'.os = w.os
  tape : w'.tape = w.tape
  output : w'.output = w.output
  size : w.heap.size ≤ w'.heap.size
  block : ∀ B, B < w.heap.size → w'.heap[B]? = w.heap[B]?

theorem Ext.refl (w : World) : Ext w w := ⟨rfl, rfl, rfl, Nat.le_refl _, fun _ _ => rfl⟩
theorem Ext.trans {w1 w2 w3 : World} (h : Ext w1 w2) (k : Ext w2 w3) : Ext w1 w3 :=
  ⟨k.os.trans h.os, k.tape.trans h.tape, k.output.trans h.output, Nat.le_trans h.size k.size, fun B hB => (k.block B (Nat.lt_of_lt_of_le hB h.size)).trans (h.block B hB)⟩

theorem some_lt {B : Nat} {o : Obj} (e : w.heap[B]? = some o) : B < w.heap.size := by
  rcases Nat.lt_or_ge B w.heap.size with h | h
  · exact h
  · simp [Array.getElem?_eq_none h] at e

theorem Ext.some (he : Ext w w') {B : Nat} {o : Obj} (e : w.heap[B]? = some o) : w'.heap[B]? = some o := by rw [he.block B (some_lt e)]; exact e

theorem Ext.len (he : Ext w w') : SLe (szB w) (szB w') := by
  intro B
  unfold szB
  cases e : w.heap[B]? with
  | none => simp
  | some o => rw [he.some e]; exact Nat.le_refl _

theorem Ext.keep (he : Ext w w') (hx : ∀ B, E B → B < w.heap.size) : Keep E w w' := ⟨he.os, he.tape, he.output, he.size, fun B hB => he.block B (hx B hB), he.len⟩

theorem VAt.mono {S S' : Nat → Nat} {cs : List Value} {C : Array Value} {base : Nat} (hv : VAt m S cs C base) (hm : MLe m m') (hs : SLe S S') : VAt m' S' cs C base :=
  ⟨hv.1, hv.2.1, hv.2.2.mono hm hs⟩

theorem MLe.refl (m : MapN) : MLe m m := fun _ _ h => h
theorem MLe.trans {m1 m2 m3 : MapN} (h : MLe m1 m2) (k : MLe m2 m3) : MLe m1 m3 := fun _ _ e => k _ _ (h _ _ e)

theorem HRel.grow (hr : HRel P w0 m E h w) (he : Ext w w') : HRel P w0 m E h w' where
  base := (he.keep hr.ext).below hr.base hr.out
  out := hr.out
  ext := fun B hB => Nat.lt_of_lt_of_le (hr.ext B hB) he.size
  glob := hr.glob
  lt := fun b B bs e => ⟨Nat.lt_of_lt_of_le (hr.lt b B bs e).1 he.size, (hr.lt b B bs e).2⟩
  dom := hr.dom
  cells := fun b cs rw e => by
    rcases hr.cells b cs rw e with hh | ⟨B, bs, C, el, fz, h1, h2, h3, h4, h5⟩
    · exact .inl hh
    exact .inr ⟨B, bs, C, el, fz, h1, he.some h2, h3.mono (MLe.refl m) he.len, h4, h5⟩
  maps := fun b es e => by
    obtain ⟨B, en, cl, h1, h2, h3, h4, h5⟩ := hr.maps b es e
    exact ⟨B, en, cl, h1, he.some h2, h3, h4.mono (MLe.refl m) he.len, h5.1.mono (MLe.refl m) he.len, h5.2⟩
  inj := hr.inj
  ty := fun b t e => let ⟨B, C, fz, h1, h2⟩ := hr.ty b t e; ⟨B, C, fz, h1, he.some h2⟩

/-- A frame beside a heap that has turned, where its own blocks have not. -/
theorem FRel.move (hf : FRel m E fr h a w) {h' : AHeap} (hm : MLe m m') (hs : SLe (szB w) (szB w')) (hb : ∀ B, LB fr a B → w'.heap[B]? = w.heap[B]?)
    (hn : ∀ B, LB fr a B → ∀ b x bs, h'.get b = some x → m' b ≠ some (B, bs)) : FRel m' E fr h' a w' where
  defers := hf.defers
  len := hf.len
  slot := fun i x e => by
    have := hf.slot i x e
    cases x with
    | v x => exact V.mono hm hs this
    | tup xs => obtain ⟨vs, h1, h2⟩ := this; exact ⟨vs, h1, h2.mono hm hs⟩
    | blk cs =>
      obtain ⟨B, C, el, fz, h1, h2, h3, h4, h5, h6⟩ := this
      have hl : LB fr a B := ⟨i, cs, e, h1⟩
      exact ⟨B, C, el, fz, h1, by rw [hb B hl]; exact h2, h3.mono hm hs, h4, h5, hn B hl⟩
    | ref s off => exact this
    | dead => trivial
  dis := hf.dis

theorem FRel.local_some (hf : FRel m E fr h a w) {B : Nat} (hl : LB fr a B) : ∃ C el fz, w.heap[B]? = some (.cells C el fz) ∧ Free C fz ∧ ¬ E B ∧ ∀ b x bs, h.get b = some x → m b ≠ some (B, bs) := by
  obtain ⟨i, cs, e, ht⟩ := hl
  obtain ⟨B', C, el, fz, h1, h2, _, h4, h5, h6⟩ := hf.slot i _ e
  rw [ht] at h1
  simp only [Value.pointer.injEq, Option.some.injEq, Addr.mk.injEq, and_true] at h1
  subst h1
  exact ⟨C, el, fz, h2, h4, h5, h6⟩

theorem Rel.grow (hr : Rel P w0 m E fr h a w) (he : Ext w w') : Rel P w0 m E fr h a w' :=
  ⟨hr.hr.grow he, hr.fr.move (MLe.refl m) he.len (fun B hl => by obtain ⟨C, el, fz, hB, _⟩ := hr.fr.local_some hl; exact he.block B (some_lt hB))
    (fun B hl => by obtain ⟨C, el, fz, _, _, _, h6⟩ := hr.fr.local_some hl; exact h6)⟩

/-! What is put into a slot. -/

theorem put_size (a : Act) (d : Option Tmp) (v : Value) : (a.put d v).tmps.size = a.tmps.size := by
  cases d <;> simp [Act.put]
theorem put_getD (a : Act) (d : Nat) (v : Value) (i : Nat) : (a.put (some d) v).tmps.getD i undef = if i = d ∧ d < a.tmps.size then v else a.tmps.getD i undef := by
  simp only [Act.put, Array.getD_eq_getD_getElem?, Array.getElem?_setIfInBounds]
  by_cases h : d = i
  · subst h
    by_cases hd : d < a.tmps.size
    · simp [hd]
    · simp [hd]
  · have : ¬ i = d := fun e => h e.symm
    simp [h, this]
theorem set_get (fr : List AV) (d : Nat) (x : AV) (i : Nat) : (fr.set d x)[i]? = if i = d ∧ d < fr.length then some x else fr[i]? := by
  rw [List.getElem?_set]
  by_cases h : d = i
  · subst h
    by_cases hd : d < fr.length
    · simp [hd]
    · simp [hd]
  · have : ¬ i = d := fun e => h e.symm
    simp [h, this]

/-- What is put is no block. -/
theorem FRel.put (hf : FRel m E fr h a w) {d : Option Nat} {x : AV} {v : Value} (hx : AVR m E h w fr a.tmps v x) (hb : ∀ cs, x ≠ .blk cs) : FRel m E (putF fr d x) h (a.put d v) w := by
  cases d with
  | none => exact hf
  | some d =>
    by_cases hd : d < fr.length
    · have hd' : d < a.tmps.size := by rw [hf.len]; exact hd
      have href : ∀ (s off : Nat) (t t' : Value) (i : Nat), AVR m E h w fr a.tmps t (.ref s off) → t' = t → AVR m E h w (fr.set d x) (a.put (some d) v).tmps t' (.ref s off) := by
        intro s off t t' i hr et cs hcs
        rw [set_get] at hcs
        by_cases hs : s = d
        · rw [if_pos ⟨hs, hd⟩] at hcs
          injection hcs with hcs
          exact absurd hcs (hb cs)
        · rw [if_neg (fun hh => hs hh.1)] at hcs
          obtain ⟨B, h1, h2⟩ := hr cs hcs
          exact ⟨B, by rw [put_getD, if_neg (fun hh => hs hh.1)]; exact h1, by rw [et]; exact h2⟩
      refine ⟨by cases a; exact hf.defers, by rw [put_size]; simp [putF, hf.len], ?_, ?_⟩
      · intro i y e
        simp only [putF] at e ⊢
        rw [set_get] at e
        by_cases hi : i = d
        · rw [if_pos ⟨hi, hd⟩] at e
          injection e with e
          subst e
          rw [put_getD, if_pos ⟨hi, hd'⟩]
          cases x with
          | ref s off => exact href s off _ _ i hx rfl
          | blk cs => exact absurd rfl (hb cs)
          | v x => exact hx
          | tup xs => exact hx
          | dead => trivial
        · rw [if_neg (fun hh => hi hh.1)] at e
          rw [put_getD, if_neg (fun hh => hi hh.1)]
          have := hf.slot i y e
          cases y with
          | ref s off => exact href s off _ _ i this rfl
          | blk cs => exact this
          | v x => exact this
          | tup xs => exact this
          | dead => trivial
      · intro i j cs cs' B ei ej ti tj
        simp only [putF] at ei ej
        rw [set_get] at ei ej
        have hi : ¬ i = d := by
          intro hi; rw [if_pos ⟨hi, hd⟩] at ei; injection ei with ei; exact hb cs ei
        have hj : ¬ j = d := by
          intro hj; rw [if_pos ⟨hj, hd⟩] at ej; injection ej with ej; exact hb cs' ej
        rw [if_neg (fun hh => hi hh.1)] at ei
        rw [if_neg (fun hh => hj hh.1)] at ej
        rw [put_getD, if_neg (fun hh => hi hh.1)] at ti
        rw [put_getD, if_neg (fun hh => hj hh.1)] at tj
        exact hf.dis i j cs cs' B ei ej ti tj
    · have hd' : ¬ d < a.tmps.size := by rw [hf.len]; exact hd
      have e1 : putF fr (some d) x = fr := by simp only [putF]; exact List.set_eq_of_length_le (by omega)
      have e2 : a.put (some d) v = a := by
        cases a with
        | mk tmps defers => simp only [Act.put]; rw [Array.setIfInBounds_eq_of_size_le (by simpa using Nat.le_of_not_lt hd')]
      rw [e1, e2]; exact hf

theorem Rel.put (hr : Rel P w0 m E fr h a w) {d : Option Nat} {x : AV} {v : Value} (hx : AVR m E h w fr a.tmps v x) (hb : ∀ cs, x ≠ .blk cs) : Rel P w0 m E (putF fr d x) h (a.put d v) w := ⟨hr.hr, hr.fr.put hx hb⟩
theorem Rel.putv (hr : Rel P w0 m E fr h a w) {d : Option Nat} {x v : Value} (hx : V m (szB w) x v) : Rel P w0 m E (putF fr d (.v x)) h (a.put d v) w := hr.put hx (by simp)

theorem noRefs_get {t : Nat} : ∀ {fr : List AV} {i s off : Nat}, noRefs t fr = true → fr[i]? = some (.ref s off) → s ≠ t
  | [], _, _, _, _, e => by simp at e
  | x :: fr, 0, s, off, hn, e => by
    simp at e; subst e
    simp only [noRefs, Bool.and_eq_true, Bool.not_eq_true', beq_eq_false_iff_ne] at hn
    exact hn.1
  | x :: fr, i + 1, s, off, hn, e => by
    have hn' : noRefs t fr = true := by
      cases x <;> simp only [noRefs, Bool.and_eq_true] at hn <;> first | exact hn | exact hn.2
    exact noRefs_get hn' (by simpa using e)

/-- A block of its own for a slot. -/
theorem Rel.putblk (hr : Rel P w0 m E fr h a w) {d : Nat} {cs : List Value} {C : Array Value} {el : TypeId} (hn : noRefs d fr = true) (hv : VL m (szB w) cs C.toList) (ho : ∀ x ∈ cs, one x = true) :
    Rel P w0 m E (fr.set d (.blk cs)) h (a.put (some d) (.pointer (some ⟨w.heap.size, 0, none⟩))) { w with heap := w.heap.push (.cells C el) } := by
  have he : Ext w { w with heap := w.heap.push (.cells C el) } := ⟨rfl, rfl, rfl, by simp, fun B hB => by simp [Array.getElem?_push, Nat.ne_of_lt hB]⟩
  have hr' := hr.grow he
  have hB : ({ w with heap := w.heap.push (.cells C el) } : World).heap[w.heap.size]? = some (.cells C el (0, 0)) := by simp
  refine ⟨hr'.hr, ?_⟩
  by_cases hd : d < fr.length
  · have hd' : d < a.tmps.size := by rw [hr.fr.len]; exact hd
    have hself : AVR m E h { w with heap := w.heap.push (.cells C el) } (fr.set d (.blk cs)) (a.put (some d) (.pointer (some ⟨w.heap.size, 0, none⟩))).tmps (.pointer (some ⟨w.heap.size, 0, none⟩)) (.blk cs) := by
      refine ⟨w.heap.size, C, el, (0, 0), rfl, hB, ⟨by have := hv.length; simp at this; omega, ho, ?_⟩, fun i _ h => by omega, fun h => by have := hr.hr.ext _ h; omega, fun b x bs hg e => by have := (hr.hr.lt b _ bs e).1; omega⟩
      have := hv.length
      simp at this
      simp only [List.drop_zero]
      rw [List.take_of_length_le (by simp; omega)]
      exact hv.mono (MLe.refl m) he.len
    have hold : ∀ i y, i ≠ d → fr[i]? = some y → AVR m E h { w with heap := w.heap.push (.cells C el) } (fr.set d (.blk cs)) (a.put (some d) (.pointer (some ⟨w.heap.size, 0, none⟩))).tmps (a.tmps.getD i undef) y := by
      intro i y hi e
      have := hr'.fr.slot i y e
      cases y with
      | ref s off =>
        intro cs' hcs
        have hs : s ≠ d := noRefs_get hn e
        rw [set_get, if_neg (fun hh => hs hh.1)] at hcs
        obtain ⟨B, h1, h2⟩ := this cs' hcs
        exact ⟨B, by rw [put_getD, if_neg (fun hh => hs hh.1)]; exact h1, h2⟩
      | blk _ => exact this
      | v x => exact this
      | tup xs => exact this
      | dead => trivial
    refine ⟨by cases a; exact hr.fr.defers, by rw [put_size]; simp [hr.fr.len], ?_, ?_⟩
    · intro i y e
      rw [set_get] at e
      by_cases hi : i = d
      · rw [if_pos ⟨hi, hd⟩] at e
        injection e with e; subst e
        rw [put_getD, if_pos ⟨hi, hd'⟩]
        exact hself
      · rw [if_neg (fun hh => hi hh.1)] at e
        rw [put_getD, if_neg (fun hh => hi hh.1)]
        exact hold i y hi e
    · intro i j c c' B ei ej ti tj
      rw [set_get] at ei ej
      rw [put_getD] at ti tj
      have key : ∀ i c, i ≠ d → fr[i]? = some (.blk c) → a.tmps.getD i undef = .pointer (some ⟨B, 0, none⟩) → B < w.heap.size := by
        intro i c hi e t
        obtain ⟨C, el, fz, hB, _⟩ := hr.fr.local_some ⟨i, c, e, t⟩
        exact some_lt hB
      by_cases hi : i = d
      · by_cases hj : j = d
        · rw [hi, hj]
        · rw [if_neg (fun hh => hj hh.1)] at ej tj
          rw [if_pos ⟨hi, hd'⟩] at ti
          have := key j c' hj ej tj
          simp at ti
          omega
      · by_cases hj : j = d
        · rw [if_neg (fun hh => hi hh.1)] at ei ti
          rw [if_pos ⟨hj, hd'⟩] at tj
          have := key i c hi ei ti
          simp at tj
          omega
        · rw [if_neg (fun hh => hi hh.1)] at ei ti
          rw [if_neg (fun hh => hj hh.1)] at ej tj
          exact hr.fr.dis i j c c' B ei ej ti tj
  · have hd' : ¬ d < a.tmps.size := by rw [hr.fr.len]; exact hd
    have e1 : fr.set d (.blk cs) = fr := List.set_eq_of_length_le (by omega)
    have e2 : a.put (some d) (.pointer (some ⟨w.heap.size, 0, none⟩)) = a := by
      cases a with
      | mk tmps defers => simp only [Act.put]; rw [Array.setIfInBounds_eq_of_size_le (by simpa using Nat.le_of_not_lt hd')]
    rw [e1, e2]; exact hr'.fr

end Go.Agm
