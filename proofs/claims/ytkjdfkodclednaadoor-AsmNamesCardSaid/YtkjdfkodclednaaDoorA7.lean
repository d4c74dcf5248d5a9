/- An abstract machine for one goroutine: its heap's changes beside the model's. No condition. -/
import Derived.Test.YtkjdfkodclednaaDoorA6
namespace Go.Agm

variable {P : Program} {w0 : World} {m m' : MapN} {E : Nat → Prop} {fr : List AV} {h : AHeap} {a : Act} {w w' : World}

/-- A step of a run: frame and heap, the world behind it. -/
def Step (P : Program) (w0 : World) (m : MapN) (E : Nat → Prop) (w : World) (fr' : List AV) (h' : AHeap) (a' : Act) (w' : World) : Prop :=
  ∃ m', MLe m m' ∧ Rel P w0 m' E fr' h' a' w' ∧ Keep E w w'

theorem Step.of (hr : Rel P w0 m E fr h a w') (hk : Keep E w w') : Step P w0 m E w fr h a w' := ⟨m, MLe.refl m, hr, hk⟩
theorem Step.trans {fr2 : List AV} {h2 : AHeap} {a2 : Act} {w1 w2 : World} (hm : MLe m m') (hk : Keep E w w1) (s : Step P w0 m' E w1 fr2 h2 a2 w2) : Step P w0 m E w fr2 h2 a2 w2 := by
  obtain ⟨m2, h1, h2, h3⟩ := s
  exact ⟨m2, hm.trans h1, h2, hk.trans h3⟩

/-! A new block. -/

def mnew (m : MapN) (b B : Nat) : MapN := fun i => if i = b then some (B, 0) else m i

theorem HRel.fresh (hr : HRel P w0 m E h w) : m h.next = none := by
  cases e : m h.next with
  | none => rfl
  | some x => have := (hr.lt h.next x.1 x.2 e).2; omega

theorem mnew_le {b B : Nat} (e : m b = none) : MLe m (mnew m b B) := by
  intro i x hi
  unfold mnew
  rw [if_neg (by intro hh; subst hh; rw [e] at hi; simp at hi)]
  exact hi

/-- The same blocks. -/
theorem HRel.same (hr : HRel P w0 m E h w) {h' : AHeap} (hn : h'.next = h.next) (hg : ∀ i, h'.get i = h.get i) (ht : h'.ty = h.ty) : HRel P w0 m E h' w where
  base := hr.base
  out := hr.out
  ext := hr.ext
  glob := hr.glob
  lt := fun b B bs e => by rw [hn]; exact hr.lt b B bs e
  dom := fun b x e => by rw [hn]; rw [hg] at e; exact hr.dom b x e
  cells := fun b cs rw e => hr.cells b cs rw (by rw [← hg]; exact e)
  maps := fun b es e => hr.maps b es (by rw [← hg]; exact e)
  inj := fun b b' x x' B bs bs' e e' => hr.inj b b' x x' B bs bs' (by rw [← hg]; exact e) (by rw [← hg]; exact e')
  ty := fun b t e => hr.ty b t (by rw [← ht]; exact e)

/-- A block's type is known. -/
theorem HRel.typ (hr : HRel P w0 m E h w) {b : Nat} {t : TypeId} (ht : TyAt m w b t) : HRel P w0 m E (h.typ b t) w where
  base := hr.base
  out := hr.out
  ext := hr.ext
  glob := hr.glob
  lt := hr.lt
  dom := hr.dom
  cells := hr.cells
  maps := hr.maps
  inj := hr.inj
  ty := fun i s e => by
    rcases List.mem_cons.1 e with e | e
    · injection e with e1 e2; subst e1 e2; exact ht
    · exact hr.ty i s e
theorem HRel.untyp {b : Nat} {t : TypeId} (hr : HRel P w0 m E (h.typ b t) w) : HRel P w0 m E h w where
  base := hr.base
  out := hr.out
  ext := hr.ext
  glob := hr.glob
  lt := hr.lt
  dom := hr.dom
  cells := hr.cells
  maps := hr.maps
  inj := hr.inj
  ty := fun i s e => hr.ty i s (List.mem_cons_of_mem _ e)
theorem TyAt.le {b : Nat} {t : TypeId} (h : TyAt m w b t) (hm : MLe m m') : TyAt m' w b t := let ⟨B, C, fz, h1, h2⟩ := h; ⟨B, C, fz, hm _ _ h1, h2⟩

theorem ext_push (w : World) (o : Obj) : Ext w { w with heap := w.heap.push o } := ⟨rfl, rfl, rfl, by simp, fun B hB => by simp [Array.getElem?_push, Nat.ne_of_lt hB]⟩

/-- A new row: the world may have drawn ahead of it. -/
theorem HRel.newCells (hr : HRel P w0 m E h w) {w1 : World} (h1 : Ext w w1) (hh : w1.heap = w.heap) {cs : List Value} {C : Array Value} {el : TypeId} (hv : VL m (szB w) cs (C.toList.take cs.length)) (hl : cs.length ≤ C.size) (ho : ∀ x ∈ cs, one x = true) :
    HRel P w0 (mnew m h.next w.heap.size) E (h.new (.cells cs true)) { w1 with heap := w1.heap.push (.cells C el) } := by
  have he : Ext w { w1 with heap := w1.heap.push (.cells C el) } := h1.trans (ext_push w1 _)
  have hle : MLe m (mnew m h.next w.heap.size) := mnew_le hr.fresh
  have hB : ({ w1 with heap := w1.heap.push (.cells C el) } : World).heap[w.heap.size]? = some (.cells C el (0, 0)) := by simp [hh]
  have hr' := hr.grow he
  refine ⟨hr'.base, hr'.out, hr'.ext, fun g hg => hle _ _ (hr.glob g hg), ?_, ?_, ?_, ?_, ?_, fun b t e => (hr'.ty b t e).le hle⟩
  · intro b B bs e
    simp only [mnew] at e
    by_cases hb : b = h.next
    · rw [if_pos hb] at e
      injection e with e
      injection e with e1 e2
      subst e1
      refine ⟨some_lt hB, ?_⟩
      rw [hb]; simp [AHeap.new]
    · rw [if_neg hb] at e
      refine ⟨(hr'.lt b B bs e).1, ?_⟩
      have := (hr.lt b B bs e).2
      simp only [AHeap.new]
      omega
  · intro b x e
    rw [AHeap.get_new] at e
    simp only [AHeap.new]
    by_cases hb : b = h.next
    · omega
    · rw [if_neg hb] at e
      have := hr.dom b x e
      omega
  · intro b cs' rw' e
    rw [AHeap.get_new] at e
    by_cases hb : b = h.next
    · rw [if_pos hb] at e
      injection e with e
      injection e with e1 e2
      subst e1 e2
      refine .inr ⟨w.heap.size, 0, C, el, (0, 0), by simp [mnew, hb], hB, ⟨by omega, ho, ?_⟩, fun _ => ⟨fun hx => by have := hr.ext _ hx; omega, fun i _ hi => by omega⟩, by simp⟩
      simp only [List.drop_zero]
      exact hv.mono hle he.len
    · rw [if_neg hb] at e
      rcases hr'.cells b cs' rw' e with ⟨g1, g2, g3⟩ | ⟨B, bs, C', el', fz, k1, k2, k3, k4, k5⟩
      · exact .inl ⟨g1, g2, by simp only [mnew, if_neg hb]; exact g3⟩
      exact .inr ⟨B, bs, C', el', fz, hle _ _ k1, k2, k3.mono hle (fun _ => Nat.le_refl _), k4, k5⟩
  · intro b es e
    rw [AHeap.get_new] at e
    by_cases hb : b = h.next
    · rw [if_pos hb] at e; simp at e
    · rw [if_neg hb] at e
      obtain ⟨B, en, cl, k1, k2, k3, k4, k5⟩ := hr'.maps b es e
      exact ⟨B, en, cl, hle _ _ k1, k2, k3, k4.mono hle (fun _ => Nat.le_refl _), k5.1.mono hle (fun _ => Nat.le_refl _), k5.2⟩
  · intro b b' x x' B bs bs' e e' n n' hown
    rw [AHeap.get_new] at e e'
    simp only [mnew] at n n'
    by_cases hb : b = h.next
    · by_cases hb' : b' = h.next
      · rw [hb, hb']
      · rw [if_pos hb] at n
        rw [if_neg hb'] at n'
        have := (hr.lt b' B bs' n').1
        simp at n
        omega
    · by_cases hb' : b' = h.next
      · rw [if_pos hb'] at n'
        rw [if_neg hb] at n
        have := (hr.lt b B bs n).1
        simp at n'
        omega
      · rw [if_neg hb] at e n
        rw [if_neg hb'] at e' n'
        exact hr.inj b b' x x' B bs bs' e e' n n' hown

/-- A new map. -/
theorem HRel.newMap (hr : HRel P w0 m E h w) : HRel P w0 (mnew m h.next w.heap.size) E (h.new (.map [])) { w with heap := w.heap.push (.map #[] 0) } := by
  have he : Ext w { w with heap := w.heap.push (.map #[] 0) } := ext_push w _
  have hle : MLe m (mnew m h.next w.heap.size) := mnew_le hr.fresh
  have hB : ({ w with heap := w.heap.push (.map #[] 0) } : World).heap[w.heap.size]? = some (.map #[] 0) := by simp
  have hr' := hr.grow he
  refine ⟨hr'.base, hr'.out, hr'.ext, fun g hg => hle _ _ (hr.glob g hg), ?_, ?_, ?_, ?_, ?_, fun b t e => (hr'.ty b t e).le hle⟩
  · intro b B bs e
    simp only [mnew] at e
    by_cases hb : b = h.next
    · rw [if_pos hb] at e
      injection e with e
      injection e with e1 e2
      subst e1
      refine ⟨some_lt hB, ?_⟩
      rw [hb]; simp [AHeap.new]
    · rw [if_neg hb] at e
      refine ⟨(hr'.lt b B bs e).1, ?_⟩
      have := (hr.lt b B bs e).2
      simp only [AHeap.new]
      omega
  · intro b x e
    rw [AHeap.get_new] at e
    simp only [AHeap.new]
    by_cases hb : b = h.next
    · omega
    · rw [if_neg hb] at e
      have := hr.dom b x e
      omega
  · intro b cs' rw' e
    rw [AHeap.get_new] at e
    by_cases hb : b = h.next
    · rw [if_pos hb] at e; simp at e
    · rw [if_neg hb] at e
      rcases hr'.cells b cs' rw' e with ⟨g1, g2, g3⟩ | ⟨B, bs, C', el', fz, k1, k2, k3, k4, k5⟩
      · exact .inl ⟨g1, g2, by simp only [mnew, if_neg hb]; exact g3⟩
      exact .inr ⟨B, bs, C', el', fz, hle _ _ k1, k2, k3.mono hle (fun _ => Nat.le_refl _), k4, k5⟩
  · intro b es e
    rw [AHeap.get_new] at e
    by_cases hb : b = h.next
    · rw [if_pos hb] at e
      injection e with e
      injection e with e1
      subst e1
      exact ⟨w.heap.size, #[], 0, by simp [mnew, hb], hB, fun hx => by have := hr.ext _ hx; omega, .nil, .nil, MapKept.stamped_empty _⟩
    · rw [if_neg hb] at e
      obtain ⟨B, en, cl, k1, k2, k3, k4, k5⟩ := hr'.maps b es e
      exact ⟨B, en, cl, hle _ _ k1, k2, k3, k4.mono hle (fun _ => Nat.le_refl _), k5.1.mono hle (fun _ => Nat.le_refl _), k5.2⟩
  · intro b b' x x' B bs bs' e e' n n' hown
    rw [AHeap.get_new] at e e'
    simp only [mnew] at n n'
    by_cases hb : b = h.next
    · by_cases hb' : b' = h.next
      · rw [hb, hb']
      · rw [if_pos hb] at n
        rw [if_neg hb'] at n'
        have := (hr.lt b' B bs' n').1
        simp at n
        omega
    · by_cases hb' : b' = h.next
      · rw [if_pos hb'] at n'
        rw [if_neg hb] at n
        have := (hr.lt b B bs n).1
        simp at n'
        omega
      · rw [if_neg hb] at e n
        rw [if_neg hb'] at e' n'
        exact hr.inj b b' x x' B bs bs' e e' n n' hown

/-- A frame beside a new block. -/
theorem FRel.newBlk (hr : Rel P w0 m E fr h a w) {b : ABlk} {w1 : World} (h1 : Ext w w1) : FRel (mnew m h.next w.heap.size) E fr (h.new b) a w1 := by
  refine hr.fr.move (mnew_le hr.hr.fresh) h1.len (fun B hl => ?_) (fun B hl i x bs e n => ?_)
  · obtain ⟨C, el, fz, hB, _⟩ := hr.fr.local_some hl
    exact h1.block B (some_lt hB)
  · obtain ⟨C, el, fz, hB, _, _, h6⟩ := hr.fr.local_some hl
    rw [AHeap.get_new] at e
    simp only [mnew] at n
    by_cases hi : i = h.next
    · rw [if_pos hi] at n
      have := some_lt hB
      simp at n
      omega
    · rw [if_neg hi] at e n
      exact h6 i x bs e n

theorem Rel.newCells (hr : Rel P w0 m E fr h a w) {w1 : World} (h1 : Ext w w1) (hh : w1.heap = w.heap) {cs : List Value} {C : Array Value} {el : TypeId} (hv : VL m (szB w) cs (C.toList.take cs.length)) (hl : cs.length ≤ C.size) (ho : ∀ x ∈ cs, one x = true) :
    Rel P w0 (mnew m h.next w.heap.size) E fr (h.new (.cells cs true)) a { w1 with heap := w1.heap.push (.cells C el) } :=
  ⟨hr.hr.newCells h1 hh hv hl ho, FRel.newBlk hr (h1.trans (ext_push w1 _))⟩

theorem Rel.newMap (hr : Rel P w0 m E fr h a w) : Rel P w0 (mnew m h.next w.heap.size) E fr (h.new (.map [])) a { w with heap := w.heap.push (.map #[] 0) } :=
  ⟨hr.hr.newMap, FRel.newBlk hr (ext_push w _)⟩

/-! A block that is named no more. -/

theorem HRel.del (hr : HRel P w0 m E h w) (b : Nat) : HRel P w0 m E (h.del b) w where
  base := hr.base
  out := hr.out
  ext := hr.ext
  glob := hr.glob
  lt := hr.lt
  dom := fun i x e => by
    rw [AHeap.get_del] at e
    split at e
    · simp at e
    · exact hr.dom i x e
  cells := fun i cs rw e => by
    rw [AHeap.get_del] at e
    split at e
    · simp at e
    · exact hr.cells i cs rw e
  maps := fun i es e => by
    rw [AHeap.get_del] at e
    split at e
    · simp at e
    · exact hr.maps i es e
  inj := fun i j x x' B bs bs' e e' => by
    rw [AHeap.get_del] at e e'
    split at e
    · simp at e
    · split at e'
      · simp at e'
      · exact hr.inj i j x x' B bs bs' e e'
  ty := hr.ty

theorem Rel.typ (hr : Rel P w0 m E fr h a w) {b : Nat} {t : TypeId} (ht : TyAt m w b t) : Rel P w0 m E fr (h.typ b t) a w :=
  ⟨hr.hr.typ ht, hr.fr.move (MLe.refl m) (fun _ => Nat.le_refl _) (fun _ _ => rfl) (fun B hl i x bs e n => by
    obtain ⟨C, el, fz, _, _, _, h6⟩ := hr.fr.local_some hl
    exact h6 i x bs e n)⟩

theorem Rel.untyp {b : Nat} {t : TypeId} (hr : Rel P w0 m E fr (h.typ b t) a w) : Rel P w0 m E fr h a w :=
  ⟨hr.hr.untyp, hr.fr.move (MLe.refl m) (fun _ => Nat.le_refl _) (fun _ _ => rfl) (fun B hl i x bs e n => by
    obtain ⟨C, el, fz, _, _, _, h6⟩ := hr.fr.local_some hl
    exact h6 i x bs e n)⟩

theorem Rel.del (hr : Rel P w0 m E fr h a w) (b : Nat) : Rel P w0 m E fr (h.del b) a w :=
  ⟨hr.hr.del b, hr.fr.move (MLe.refl m) (fun _ => Nat.le_refl _) (fun _ _ => rfl) (fun B hl i x bs e n => by
    obtain ⟨C, el, fz, _, _, _, h6⟩ := hr.fr.local_some hl
    rw [AHeap.get_del] at e
    split at e
    · simp at e
    · exact h6 i x bs e n)⟩

/-! One block turned. -/

structure Mod (w w' : World) (B : Nat) : Prop where
  os : w'.os = w.os
  tape : w'.tape = w.tape
  output : w'.output = w.output
  size : w'.heap.size = w.heap.size
  block : ∀ i, i ≠ B → w'.heap[i]? = w.heap[i]?
  len : szB w' B = szB w B
  ty : ∀ C el fz, w.heap[B]? = some (.cells C el fz) → ∃ C' fz', w'.heap[B]? = some (.cells C' el fz')

theorem Mod.slen {B : Nat} (hm : Mod w w' B) : SLe (szB w) (szB w') := by
  intro i
  by_cases hi : i = B
  · subst hi; rw [hm.len]; exact Nat.le_refl _
  · unfold szB; rw [hm.block i hi]; exact Nat.le_refl _

theorem Mod.tyAt {B : Nat} (hm : Mod w w' B) {b : Nat} {t : TypeId} (h : TyAt m w b t) : TyAt m w' b t := by
  obtain ⟨B', C, fz, h1, h2⟩ := h
  by_cases hB : B' = B
  · subst hB
    obtain ⟨C', fz', h3⟩ := hm.ty C t fz h2
    exact ⟨B', C', fz', h1, h3⟩
  · exact ⟨B', C, fz, h1, by rw [hm.block B' hB]; exact h2⟩

theorem Mod.keep {B : Nat} (hm : Mod w w' B) (hE : ¬ E B) : Keep E w w' := ⟨hm.os, hm.tape, hm.output, Nat.le_of_eq hm.size.symm, fun i hi => hm.block i (fun e => hE (e ▸ hi)), hm.slen⟩

theorem HRel.mod (hr : HRel P w0 m E h w) {b B bs : Nat} {x x' : ABlk} (hm : Mod w w' B) (hb : h.get b = some x) (hx : x.own = true) (hn : m b = some (B, bs)) (hE : ¬ E B) (hx' : x'.own = true)
    (hc : ∀ cs rw, x' = .cells cs rw → ∃ C el fz, w'.heap[B]? = some (.cells C el fz) ∧ VAt m (szB w) cs C bs ∧ Free C fz)
    (hmap : ∀ es, x' = .map es → bs = 0 ∧ ∃ en cl, w'.heap[B]? = some (.map en cl) ∧ VL m (szB w) (es.map (·.1)) (en.toList.map (·.key)) ∧ VL m (szB w) (es.map (·.2)) (en.toList.map (·.val)) ∧ MapKept.Stamped en cl) :
    HRel P w0 m E (h.put b x') w' := by
  have hother : ∀ i y B' bs', i ≠ b → h.get i = some y → m i = some (B', bs') → B' ≠ B := by
    intro i y B' bs' hi hy hmi e
    subst e
    exact hi (hr.inj b i x y B' bs bs' hb hy hn hmi hx).symm
  have hB0 : ¬ B < w0.heap.size := fun hlt => hE (hr.out B hlt)
  refine ⟨(hm.keep hE).below hr.base hr.out, hr.out, fun i hi => by rw [hm.size]; exact hr.ext i hi, hr.glob, fun i B' bs' e => ⟨by rw [hm.size]; exact (hr.lt i B' bs' e).1, (hr.lt i B' bs' e).2⟩, ?_, ?_, ?_, ?_, fun i t e => hm.tyAt (hr.ty i t e)⟩
  · intro i y e
    rw [AHeap.get_put] at e
    by_cases hi : i = b
    · rw [hi]; exact hr.dom b x hb
    · rw [if_neg hi] at e; exact hr.dom i y e
  · intro i cs rw' e
    rw [AHeap.get_put] at e
    by_cases hi : i = b
    · rw [if_pos hi] at e
      injection e with e
      obtain ⟨C, el, fz, k1, k2, k3⟩ := hc cs rw' e
      subst hi
      have : rw' = true := by rw [e] at hx'; exact hx'
      exact .inr ⟨B, bs, C, el, fz, hn, k1, k2.mono (MLe.refl m) hm.slen, fun _ => ⟨hE, k3⟩, fun hf => by rw [this] at hf; simp at hf⟩
    · rw [if_neg hi] at e
      rcases hr.cells i cs rw' e with hh | ⟨B', bs', C, el, fz, k1, k2, k3, k4, k5⟩
      · exact .inl hh
      exact .inr ⟨B', bs', C, el, fz, k1, by rw [hm.block B' (hother i _ B' bs' hi e k1)]; exact k2, k3.mono (MLe.refl m) hm.slen, k4, k5⟩
  · intro i es e
    rw [AHeap.get_put] at e
    by_cases hi : i = b
    · rw [if_pos hi] at e
      injection e with e
      obtain ⟨k0, en, cl, k1, k2, k3⟩ := hmap es e
      subst hi
      subst k0
      exact ⟨B, en, cl, hn, k1, hE, k2.mono (MLe.refl m) hm.slen, k3.1.mono (MLe.refl m) hm.slen, k3.2⟩
    · rw [if_neg hi] at e
      obtain ⟨B', en, cl, k1, k2, k3, k4, k5⟩ := hr.maps i es e
      exact ⟨B', en, cl, k1, by rw [hm.block B' (hother i _ B' 0 hi e k1)]; exact k2, k3, k4.mono (MLe.refl m) hm.slen, k5.1.mono (MLe.refl m) hm.slen, k5.2⟩
  · intro i j y y' B' bs1 bs2 e e' n n' hown
    rw [AHeap.get_put] at e e'
    by_cases hi : i = b
    · by_cases hj : j = b
      · rw [hi, hj]
      · rw [if_neg hj] at e'
        rw [hi] at n
        rw [hn] at n
        simp at n
        exact absurd n.1.symm (hother j y' B' bs2 hj e' n')
    · by_cases hj : j = b
      · rw [if_neg hi] at e
        rw [hj] at n'
        rw [hn] at n'
        simp at n'
        exact absurd n'.1.symm (hother i y B' bs1 hi e n)
      · rw [if_neg hi] at e
        rw [if_neg hj] at e'
        exact hr.inj i j y y' B' bs1 bs2 e e' n n' hown

theorem Rel.mod (hr : Rel P w0 m E fr h a w) {b B bs : Nat} {x x' : ABlk} (hm : Mod w w' B) (hb : h.get b = some x) (hx : x.own = true) (hn : m b = some (B, bs)) (hE : ¬ E B) (hx' : x'.own = true)
    (hc : ∀ cs rw, x' = .cells cs rw → ∃ C el fz, w'.heap[B]? = some (.cells C el fz) ∧ VAt m (szB w) cs C bs ∧ Free C fz)
    (hmap : ∀ es, x' = .map es → bs = 0 ∧ ∃ en cl, w'.heap[B]? = some (.map en cl) ∧ VL m (szB w) (es.map (·.1)) (en.toList.map (·.key)) ∧ VL m (szB w) (es.map (·.2)) (en.toList.map (·.val)) ∧ MapKept.Stamped en cl) :
    Rel P w0 m E fr (h.put b x') a w' :=
  ⟨hr.hr.mod hm hb hx hn hE hx' hc hmap, hr.fr.move (MLe.refl m) hm.slen (fun B' hl => by
      obtain ⟨C, el, fz, _, _, _, h6⟩ := hr.fr.local_some hl
      exact hm.block B' (fun e => h6 b x bs hb (by rw [e]; exact hn))) (fun B' hl i y bs' e n => by
      obtain ⟨C, el, fz, _, _, _, h6⟩ := hr.fr.local_some hl
      rw [AHeap.get_put] at e
      by_cases hi : i = b
      · subst hi; exact h6 i x bs' hb n
      · rw [if_neg hi] at e; exact h6 i y bs' e n)⟩

/-- A block put where it is. -/
theorem Rel.same (hr : Rel P w0 m E fr h a w) {b : Nat} {x : ABlk} (hg : h.get b = some x) : Rel P w0 m E fr (h.put b x) a w := by
  have hgg : ∀ i, (h.put b x).get i = h.get i := by
    intro i
    rw [AHeap.get_put]
    split
    · rename_i hi; rw [hi, hg]
    · rfl
  refine ⟨hr.hr.same rfl hgg rfl, hr.fr.move (MLe.refl m) (fun _ => Nat.le_refl _) (fun _ _ => rfl) (fun B hl i y bs e => ?_)⟩
  obtain ⟨C, el, fz, _, _, _, h6⟩ := hr.fr.local_some hl
  rw [hgg] at e
  exact h6 i y bs e

/-- A slot's own block turned. -/
theorem Rel.modLocal (hr : Rel P w0 m E fr h a w) {s B : Nat} {cs cs' : List Value} (hm : Mod w w' B) (hs : fr[s]? = some (.blk cs)) (ht : a.tmps.getD s undef = .pointer (some ⟨B, 0, none⟩))
    (hc : ∃ C el fz, w'.heap[B]? = some (.cells C el fz) ∧ VAt m (szB w) cs' C 0 ∧ Free C fz) : Rel P w0 m E (fr.set s (.blk cs')) h a w' := by
  obtain ⟨C0, el0, fz0, k1, k2, k3, k4⟩ := hr.fr.local_some ⟨s, cs, hs, ht⟩
  have hne : ∀ i y bs, h.get i = some y → m i ≠ some (B, bs) := k4
  have hslt : s < fr.length := by
    rcases Nat.lt_or_ge s fr.length with hh | hh
    · exact hh
    · rw [List.getElem?_eq_none hh] at hs; simp at hs
  have hother : ∀ i c B', i ≠ s → fr[i]? = some (.blk c) → a.tmps.getD i undef = .pointer (some ⟨B', 0, none⟩) → B' ≠ B := by
    intro i c B' hi e t hB
    subst hB
    exact hi (hr.fr.dis i s c cs B' e hs t ht)
  constructor
  · refine ⟨(hm.keep k3).below hr.hr.base hr.hr.out, hr.hr.out, fun i hi => by rw [hm.size]; exact hr.hr.ext i hi, hr.hr.glob, fun i B' bs' e => ⟨by rw [hm.size]; exact (hr.hr.lt i B' bs' e).1, (hr.hr.lt i B' bs' e).2⟩, hr.hr.dom, ?_, ?_, hr.hr.inj, fun i t e => hm.tyAt (hr.hr.ty i t e)⟩
    · intro i c rw' e
      rcases hr.hr.cells i c rw' e with hh | ⟨B', bs', C, el, fz, j1, j2, j3, j4, j5⟩
      · exact .inl hh
      exact .inr ⟨B', bs', C, el, fz, j1, by rw [hm.block B' (fun hB => hne i _ bs' e (by rw [← hB]; exact j1))]; exact j2, j3.mono (MLe.refl m) hm.slen, j4, j5⟩
    · intro i es e
      obtain ⟨B', en, cl, j1, j2, j3, j4, j5⟩ := hr.hr.maps i es e
      exact ⟨B', en, cl, j1, by rw [hm.block B' (fun hB => hne i _ 0 e (by rw [← hB]; exact j1))]; exact j2, j3, j4.mono (MLe.refl m) hm.slen, j5.1.mono (MLe.refl m) hm.slen, j5.2⟩
  · refine ⟨hr.fr.defers, by simp [hr.fr.len], ?_, ?_⟩
    · intro i y e
      rw [set_get] at e
      by_cases hi : i = s
      · rw [if_pos ⟨hi, hslt⟩] at e
        injection e with e
        subst e
        obtain ⟨C, el, fz, j1, j2, j3⟩ := hc
        rw [hi]
        exact ⟨B, C, el, fz, ht, j1, j2.mono (MLe.refl m) hm.slen, j3, k3, hne⟩
      · rw [if_neg (fun hh => hi hh.1)] at e
        have := hr.fr.slot i y e
        cases y with
        | v x => exact V.mono (MLe.refl m) hm.slen this
        | tup xs => obtain ⟨vs, j1, j2⟩ := this; exact ⟨vs, j1, j2.mono (MLe.refl m) hm.slen⟩
        | blk c =>
          obtain ⟨B', C, el, fz, j1, j2, j3, j4, j5, j6⟩ := this
          exact ⟨B', C, el, fz, j1, by rw [hm.block B' (hother i c B' hi e j1)]; exact j2, j3.mono (MLe.refl m) hm.slen, j4, j5, j6⟩
        | ref s' off =>
          intro c hc'
          rw [set_get] at hc'
          by_cases hs' : s' = s
          · subst hs'; exact this cs hs
          · rw [if_neg (fun hh => hs' hh.1)] at hc'; exact this c hc'
        | dead => trivial
    · intro i j c c' B' ei ej ti tj
      rw [set_get] at ei ej
      have fix : ∀ i c, (if i = s ∧ s < fr.length then some (AV.blk cs') else fr[i]?) = some (.blk c) → ∃ c', fr[i]? = some (.blk c') := by
        intro i c e
        by_cases hi : i = s
        · subst hi; exact ⟨cs, hs⟩
        · rw [if_neg (fun hh => hi hh.1)] at e; exact ⟨c, e⟩
      obtain ⟨d, hd⟩ := fix i c ei
      obtain ⟨d', hd'⟩ := fix j c' ej
      exact hr.fr.dis i j d d' B' hd hd' ti tj

end Go.Agm
