/- An abstract machine for one goroutine: stretches of code by the steps with branches. No condition. -/
import Derived.Test.YtkjdfkodclednaaDoorB4
namespace Go.Agm
universe u

variable {P : Program} {loc : Nat → Bool} {F : FT} {A : Sort u} {R : A → A → Prop} {M : Mach A}

def stepK2 (P : Program) (loc : Nat → Bool) (M : Mach A) (o : Oper) (fr : List AV) (k : List AV → AHeap → A) (h : AHeap) : A :=
  match o.op with
  | .store t a x => match o.dst with
    | none => storeK P M t a x fr k h
    | some _ => M.fail
  | _ => opK2 P loc M o fr (fun x h => k (putF fr o.dst x) h) h

def opsK2 (P : Program) (loc : Nat → Bool) (M : Mach A) (ops : Array Oper) : List Nat → List AV → (List AV → AHeap → A) → AHeap → A
  | [], fr, k, h => k fr h
  | i :: r, fr, k, h => match ops[i]? with
    | none => M.fail
    | some o => match o.guard with
      | none => stepK2 P loc M o fr (fun fr h => opsK2 P loc M ops r fr k h) h
      | some (j, want) => match (ops[j]?).bind (·.dst) with
        | none => M.fail
        | some t => match getF fr t with
          | .tup [] => opsK2 P loc M ops r (putF fr o.dst (.tup [])) k h
          | .v (.bool b) => match want with
            | true => cond b (stepK2 P loc M o (fr.set t (.v (.bool true))) (fun fr h => opsK2 P loc M ops r fr k h) h) (opsK2 P loc M ops r (putF (fr.set t (.v (.bool false))) o.dst (.tup [])) k h)
            | false => cond b (opsK2 P loc M ops r (putF (fr.set t (.v (.bool true))) o.dst (.tup [])) k h) (stepK2 P loc M o (fr.set t (.v (.bool false))) (fun fr h => opsK2 P loc M ops r fr k h) h)
          | _ => M.fail

/-- What an operation that reads would read now, typed. -/
def rereadT (P : Program) (o : Oper) (fr : List AV) (h : AHeap) : Option (Bool × Value) := match o.op with
  | .load t a => match locA P fr a with
    | some l => match l.cells fr h with
      | some cs => readT P t cs l.off
      | none => none
    | none => none
  | _ => none
theorem rereadT_ok {o : Oper} {fr : List AV} {h : AHeap} {y : Value} (e : rereadT P o fr h = some (true, y)) : rereadA P o fr h = some y := by
  unfold rereadT at e
  unfold rereadA
  split at e
  · rename_i t a ho
    split at e
    · rename_i l hl
      split at e
      · rename_i cs hc
        simp only [ho, hl, hc, Option.bind_some]
        exact readT_ok e
      · simp at e
    · simp at e
  · simp at e
def againT (P : Program) (o : Oper) (fr : List AV) (h : AHeap) : Bool := match o.dst with
  | some d => match getF fr d with
    | .tup [] => true
    | .v x => localA P o fr || (match rereadT P o fr h with
      | some p => p.1 && veq 4 p.2 x
      | none => (match rereadA P o fr h with
        | some y => veq 4 y x
        | none => false))
    | _ => false
  | none => false
theorem againT_ok {o : Oper} {fr : List AV} {h : AHeap} (e : againT P o fr h = true) : againA P o fr h = true := by
  unfold againT at e
  unfold againA
  cases hd : o.dst with
  | none => rw [hd] at e; simp at e
  | some d =>
    rw [hd] at e
    simp only at e ⊢
    revert e
    cases getF fr d with
    | v x =>
      simp only
      intro e
      cases hl : localA P o fr with
      | true => rfl
      | false =>
        rw [hl, Bool.false_or] at e
        rw [Bool.false_or]
        split at e
        · rename_i p hp
          obtain ⟨p1, p2⟩ := p
          simp only [Bool.and_eq_true] at e
          obtain ⟨e1, e2⟩ := e
          subst e1
          rw [rereadT_ok hp]
          exact e2
        · exact e
    | tup xs =>
      cases xs with
      | nil => exact fun _ => rfl
      | cons _ _ => intro e; simp at e
    | _ => intro e; simp at e
def recheckT (P : Program) (loc : Nat → Bool) (ops : Array Oper) (pre : Array Nat) (i : Nat) (fr : List AV) (h : AHeap) : List Nat → Bool
  | [] => true
  | j :: r => (match ops[j]? with
    | some o => !(clsA P loc o == 1) || (pre.getD i 0).testBit j || againT P o fr h
    | none => true) && recheckT P loc ops pre i fr h r
theorem recheckT_ok {ops : Array Oper} {pre : Array Nat} {i : Nat} {fr : List AV} {h : AHeap} : ∀ {l : List Nat}, recheckT P loc ops pre i fr h l = true → recheck P loc ops pre i fr h l = true
  | [], _ => rfl
  | j :: r, e => by
    simp only [recheckT, Bool.and_eq_true] at e
    simp only [recheck, Bool.and_eq_true]
    refine ⟨?_, recheckT_ok e.2⟩
    have e1 := e.1
    cases hj : ops[j]? with
    | none => rfl
    | some o =>
      rw [hj] at e1
      simp only [Bool.or_eq_true] at e1 ⊢
      rcases e1 with h1 | h1
      · exact Or.inl h1
      · exact Or.inr (againT_ok h1)

def opsC2 (P : Program) (loc : Nat → Bool) (M : Mach A) (ops : Array Oper) (pre : Array Nat) : List Nat → List Nat → List AV → (List AV → AHeap → A) → AHeap → A
  | _, [], fr, k, h => k fr h
  | done, i :: r, fr, k, h => match ops[i]? with
    | none => M.fail
    | some o => match o.guard with
      | none => stepK2 P loc M o fr (fun fr h => bif Nat.blt (clsA P loc o) 2 || recheckT P loc ops pre i fr h done then opsC2 P loc M ops pre (i :: done) r fr k h else M.fail) h
      | some (j, want) => match (ops[j]?).bind (·.dst) with
        | none => M.fail
        | some t => match getF fr t with
          | .tup [] => opsC2 P loc M ops pre (i :: done) r (putF fr o.dst (.tup [])) k h
          | .v (.bool b) => match want with
            | true => cond b (stepK2 P loc M o (fr.set t (.v (.bool true))) (fun fr h => bif Nat.blt (clsA P loc o) 2 || recheckT P loc ops pre i fr h done then opsC2 P loc M ops pre (i :: done) r fr k h else M.fail) h)
              (opsC2 P loc M ops pre (i :: done) r (putF (fr.set t (.v (.bool false))) o.dst (.tup [])) k h)
            | false => cond b (opsC2 P loc M ops pre (i :: done) r (putF (fr.set t (.v (.bool true))) o.dst (.tup [])) k h)
              (stepK2 P loc M o (fr.set t (.v (.bool false))) (fun fr h => bif Nat.blt (clsA P loc o) 2 || recheckT P loc ops pre i fr h done then opsC2 P loc M ops pre (i :: done) r fr k h else M.fail) h)
          | _ => M.fail

def drawK2 (P : Program) (loc : Nat → Bool) (M : Mach A) (ops : Array Oper) (fr : List AV) (k : List AV → AHeap → A) (h : AHeap) : A :=
  bif regionOk P loc ops (Region.before ops) (orderA P loc ops) && ops.toList.all (freshA fr) then opsC2 P loc M ops (Region.before ops) [] (orderA P loc ops) fr k h
  else match soleOrd P loc ops fr with
    | some σ => opsC2 P loc M ops (preS P loc ops σ) [] (orderS P loc ops σ) fr k h
    | none => M.fail

def goStep2 (P : Program) (F : FT) (M : Mach A) (fn : Func) (todo : List Item) (fr : List AV) (k : List Item → List AV → AHeap → A) (h : AHeap) : A :=
  match todo with
  | .code (.region id ops draw) :: t => bif draw then drawK2 P F.loc M ops (maskF (F.mask id) fr) (fun fr h => k t fr h) h else opsK2 P F.loc M ops (List.range ops.size) (maskF (F.mask id) fr) (fun fr h => k t fr h) h
  | t => goStep P F M fn t fr k h

def segK2 (P : Program) (F : FT) (M : Mach A) (fn : Func) (cuts : List Nat) : Nat → List Item → List AV → (List Item → List AV → AHeap → A) → AHeap → A
  | 0, t, fr, leaf, h => leaf t fr h
  | n + 1, t, fr, leaf, h => goStep2 P F M fn t fr (fun t fr h => match t with
      | .code (.region id ops d) :: t => bif cuts.contains id then leaf (.code (.region id ops d) :: t) (maskF (F.mask id) fr) h else segK2 P F M fn cuts n (.code (.region id ops d) :: t) fr leaf h
      | t => segK2 P F M fn cuts n t fr leaf h) h

theorem stepK2_le (hf : ∀ x, R M.fail x) (hM : MRel0 R M M) {o : Oper} {fr : List AV} {k l : List AV → AHeap → A} {h : AHeap} (hk : ∀ fr h, R (k fr h) (l fr h)) : R (stepK2 P loc M o fr k h) (stepK P loc M o fr l h) := by
  unfold stepK2 stepK
  split
  · rename_i t a x hop
    cases hd : o.dst with
    | none => simp only [hop]; exact storeK_rel hM hk
    | some _ => exact hf _
  · rename_i hne
    split
    · rename_i t a x hop
      exact absurd hop (hne _ _ _)
    · exact opK2_le hf hM fun _ _ => hk _ _

theorem opsK2_le (hf : ∀ x, R M.fail x) (hM : MRel0 R M M) {ops : Array Oper} {k l : List AV → AHeap → A} (hk : ∀ fr h, R (k fr h) (l fr h)) :
    ∀ (is : List Nat) (fr : List AV) (h : AHeap), R (opsK2 P loc M ops is fr k h) (opsK P loc M ops is fr l h) := by
  intro is
  induction is with
  | nil => exact fun fr h => hk fr h
  | cons i is ih =>
    intro fr h
    simp only [opsK2, opsK]
    cases ho : ops[i]? with
    | none => exact hf _
    | some o =>
      simp only
      cases hg : o.guard with
      | none => exact stepK2_le hf hM (fun _ _ => ih _ _)
      | some p =>
        obtain ⟨j, want⟩ := p
        simp only
        cases ht : (ops[j]?).bind (·.dst) with
        | none => exact hf _
        | some t =>
          simp only
          cases hs : getF fr t with
          | v x => cases x with
            | bool b => cases want with
              | true => exact cond_rel (stepK2_le hf hM (fun _ _ => ih _ _)) (ih _ _)
              | false => exact cond_rel (ih _ _) (stepK2_le hf hM (fun _ _ => ih _ _))
            | _ => exact hf _
          | tup xs => cases xs with
            | nil => exact ih _ _
            | cons _ _ => exact hf _
          | _ => exact hf _

theorem cond_recheck (hf : ∀ x, R M.fail x) {c d d' : Bool} (hd : d = true → d' = true) {x y : A} (hxy : R x y) : R (bif c || d then x else M.fail) (bif c || d' then y else M.fail) := by
  cases c with
  | true => exact hxy
  | false =>
    cases d with
    | false => exact hf _
    | true => rw [hd rfl]; exact hxy

theorem opsC2_le (hf : ∀ x, R M.fail x) (hM : MRel0 R M M) {ops : Array Oper} {pre : Array Nat} {k l : List AV → AHeap → A} (hk : ∀ fr h, R (k fr h) (l fr h)) :
    ∀ (is done : List Nat) (fr : List AV) (h : AHeap), R (opsC2 P loc M ops pre done is fr k h) (opsC P loc M ops pre done is fr l h) := by
  intro is
  induction is with
  | nil => exact fun _ fr h => hk fr h
  | cons i is ih =>
    intro done fr h
    simp only [opsC2, opsC]
    cases ho : ops[i]? with
    | none => exact hf _
    | some o =>
      simp only
      cases hg : o.guard with
      | none => exact stepK2_le hf hM (fun _ _ => cond_recheck hf recheckT_ok (ih _ _ _))
      | some p =>
        obtain ⟨j, want⟩ := p
        simp only
        cases ht : (ops[j]?).bind (·.dst) with
        | none => exact hf _
        | some t =>
          simp only
          cases hs : getF fr t with
          | v x => cases x with
            | bool b => cases want with
              | true => exact cond_rel (stepK2_le hf hM (fun _ _ => cond_recheck hf recheckT_ok (ih _ _ _))) (ih _ _ _)
              | false => exact cond_rel (ih _ _ _) (stepK2_le hf hM (fun _ _ => cond_recheck hf recheckT_ok (ih _ _ _)))
            | _ => exact hf _
          | tup xs => cases xs with
            | nil => exact ih _ _ _
            | cons _ _ => exact hf _
          | _ => exact hf _

theorem drawK2_le (hf : ∀ x, R M.fail x) (hM : MRel0 R M M) {ops : Array Oper} {fr : List AV} {k l : List AV → AHeap → A} {h : AHeap} (hk : ∀ fr h, R (k fr h) (l fr h)) :
    R (drawK2 P loc M ops fr k h) (drawK P loc M ops fr l h) := by
  unfold drawK2 drawK
  refine cond_rel (opsC2_le hf hM hk _ _ _ _) ?_
  split
  · rename_i σ hσ
    simp only [hσ]
    exact opsC2_le hf hM hk _ _ _ _
  · exact hf _

theorem goStep2_le (hf : ∀ x, R M.fail x) (hM : MRel R M M) {fn : Func} {todo : List Item} {fr : List AV} {k l : List Item → List AV → AHeap → A} {h : AHeap} (hk : ∀ t fr h, R (k t fr h) (l t fr h)) :
    R (goStep2 P F M fn todo fr k h) (goStep P F M fn todo fr l h) := by
  unfold goStep2
  split
  · simp only [goStep]
    exact cond_rel (drawK2_le hf hM.toMRel0 fun _ _ => hk _ _ _) (opsK2_le hf hM.toMRel0 (fun _ _ => hk _ _ _) _ _ _)
  · exact goStep_rel hM hk

theorem segK2_le (hf : ∀ x, R M.fail x) (hM : MRel R M M) {fn : Func} {cuts : List Nat} {leaf leaf' : List Item → List AV → AHeap → A} (hk : ∀ t fr h, R (leaf t fr h) (leaf' t fr h)) : ∀ (n : Nat) {todo : List Item} {fr : List AV} {h : AHeap},
    R (segK2 P F M fn cuts n todo fr leaf h) (segK P F M fn cuts n todo fr leaf' h) := by
  intro n
  induction n with
  | zero => intro todo fr h; exact hk _ _ _
  | succ n ih =>
    intro todo fr h
    simp only [segK2, segK]
    refine goStep2_le hf hM fun t fr h => ?_
    split
    · exact cond_rel (hk _ _ _) ih
    · rename_i hne
      split
      · exact absurd rfl (hne _ _ _ _)
      · exact ih

variable {w0 : World} {m m' m0 : MapN} {E : Nat → Prop} {fr : List AV} {h : AHeap} {a : Act} {w : World} {S : Nat → Nat}

theorem semM_self {c : CallsP} {Q : Post} : MRel (fun x y : Prop => x → y) (semM c Q) (semM c Q) where
  fail := id
  ret := fun _ _ => id
  call := fun g xs h k l hk => by
    simp only [semM]
    split
    · exact fun e => ⟨e.1, hk _ _ e.2⟩
    · exact id

theorem seg_sem2 (hmix : P.follows .mixedOrders = true) {c : CallsP} (hc : CallsOk P w0 c) {n : Nat} {fn : Func} {Q : Post} {leaf : List Item → List AV → AHeap → Prop} (hl : ∀ t fr h, leaf t fr h → Sem P w0 n fn Q t fr h) (cuts : List Nat)
    (k : Nat) {t : List Item} (e : segK2 P F (semM c Q) fn cuts k t fr leaf h) : Sem P w0 n fn Q t fr h :=
  seg_sem (F := F) hmix hc hl cuts k (segK2_le (R := fun x y : Prop => x → y) (fun _ => False.elim) semM_self (fun _ _ _ => id) k e)

/-! Slices that may be nil, as slices of a block that may not be. -/

structure Gh where
  slot : Nat
  cell : Option (List Nat × Nat)
  sz : Nat

def gv (h : AHeap) (sz : Nat) : Value := .slice (some ⟨h.next, 0, none⟩) 0 sz
/-- A slice of nothing. -/
def isNo (v : Value) : Bool := match v with
  | .slice none _ _ => true
  | .slice (some _) _ sz => Nat.beq sz 0
  | _ => false

/-- What a path leads to: from a slot, or, behind the frame, from a name. -/
def pathG (G : Nat) (fr : List AV) (h : AHeap) (s : Nat) (sel : List Nat) : Option Value := match fr[s]? with
  | some _ => pathV fr h s sel
  | none => selsV h (.pointer (some ⟨G + (s - fr.length), 0, none⟩)) sel

def ghost1 (G : Nat) (g : Gh) (fr : List AV) (h : AHeap) : List AV × AHeap := bif !(Nat.blt 0 g.sz) then (fr, h) else match g.cell with
  | none => match getF fr g.slot with
    | .v v => bif isNo v then (fr.set g.slot (.v (gv h g.sz)), h.new (.cells [] true)) else (fr, h)
    | _ => (fr, h)
  | some (sel, j) => match pathG G fr h g.slot sel with
    | some (.pointer (some ⟨b, _, _⟩)) => match h.get b with
      | some (.cells cs rw) => match nth cs j with
        | some v => bif isNo v then (fr, (h.put b (.cells (cs.set j (gv h g.sz)) rw)).new (.cells [] true)) else (fr, h)
        | _ => (fr, h)
      | _ => (fr, h)
    | _ => (fr, h)
def ghosts (G : Nat) : List Gh → List AV → AHeap → List AV × AHeap
  | [], fr, h => (fr, h)
  | g :: r, fr, h => ghosts G r (ghost1 G g fr h).1 (ghost1 G g fr h).2

theorem HRel.ghostNew (hr : HRel P w0 m E h w) : HRel P w0 m E (h.new (.cells [] true)) w := by
  refine ⟨hr.base, hr.out, hr.ext, hr.glob, ?_, ?_, ?_, ?_, ?_, hr.ty⟩
  · intro b B bs e
    have := hr.lt b B bs e
    simp only [AHeap.new]
    exact ⟨this.1, by omega⟩
  · intro b x e
    rw [AHeap.get_new] at e
    simp only [AHeap.new]
    split at e
    · omega
    · have := hr.dom b x e; omega
  · intro b cs rw e
    rw [AHeap.get_new] at e
    split at e
    · rename_i hb
      injection e with e
      injection e with e1 e2
      exact .inl ⟨e1.symm, e2.symm, by rw [hb]; exact hr.fresh⟩
    · exact hr.cells b cs rw e
  · intro b es e
    rw [AHeap.get_new] at e
    split at e
    · simp at e
    · exact hr.maps b es e
  · intro b b' x x' B bs bs' e e' n n' hown
    rw [AHeap.get_new] at e e'
    split at e
    · rename_i hb; rw [hb, hr.fresh] at n; simp at n
    · split at e'
      · rename_i hb; rw [hb, hr.fresh] at n'; simp at n'
      · exact hr.inj b b' x x' B bs bs' e e' n n' hown

theorem HRel.recell (hr : HRel P w0 m E h w) {b : Nat} {cs cs' : List Value} {rw' : Bool} (hb : h.get b = some (.cells cs rw')) (hl : cs'.length = cs.length) (hv : ∀ C bs, VAt m (szB w) cs C bs → VAt m (szB w) cs' C bs) : HRel P w0 m E (h.put b (.cells cs' rw')) w := by
  refine ⟨hr.base, hr.out, hr.ext, hr.glob, hr.lt, ?_, ?_, ?_, ?_, hr.ty⟩
  · intro i x e
    rw [AHeap.get_put] at e
    split at e
    · rename_i hi; rw [hi]; exact hr.dom b _ hb
    · exact hr.dom i x e
  · intro i c rw e
    rw [AHeap.get_put] at e
    split at e
    · rename_i hi
      injection e with e
      injection e with e1 e2
      subst e1 e2 hi
      rcases hr.cells i cs rw' hb with ⟨g1, g2, g3⟩ | ⟨B, bs, C, el, fz, k1, k2, k3, k4, k5⟩
      · refine .inl ⟨?_, g2, g3⟩
        rw [g1] at hl
        exact List.length_eq_zero_iff.1 hl
      · exact .inr ⟨B, bs, C, el, fz, k1, k2, hv C bs k3, k4, k5⟩
    · exact hr.cells i c rw e
  · intro i es e
    rw [AHeap.get_put] at e
    split at e
    · simp at e
    · exact hr.maps i es e
  · intro i j x x' B bs bs' e e' n n' hown
    rw [AHeap.get_put] at e e'
    split at e
    · rename_i hi
      injection e with e
      subst e
      split at e'
      · rename_i hj; rw [hi, hj]
      · exact hr.inj i j (.cells cs rw') x' B bs bs' (by rw [hi]; exact hb) e' n n' hown
    · split at e'
      · rename_i hj
        exact hr.inj i j x (.cells cs rw') B bs bs' e (by rw [hj]; exact hb) n n' hown
      · exact hr.inj i j x x' B bs bs' e e' n n' hown

theorem VAt.set {cs : List Value} {C : Array Value} {bs j : Nat} {x' : Value} (hv : VAt m S cs C bs) (ho : one x' = true) (hx : ∀ y, (∃ x, cs[j]? = some x ∧ V m S x y) → V m S x' y) : VAt m S (cs.set j x') C bs := by
  obtain ⟨h1, h2, h3⟩ := hv
  refine ⟨by rw [List.length_set]; exact h1, ?_, ?_⟩
  · intro z hz
    rcases List.mem_or_eq_of_mem_set hz with hz | rfl
    · exact h2 z hz
    · exact ho
  · have hl := h3.length
    rw [List.length_set]
    refine .of_get (by rw [List.length_set]; exact hl) fun i z hz => ?_
    rw [List.getElem?_set] at hz
    split at hz
    · rename_i hij
      subst hij
      split at hz
      · rename_i hlt
        injection hz with hz
        subst hz
        obtain ⟨x, hx0⟩ : ∃ x, cs[j]? = some x := ⟨_, List.getElem?_eq_getElem hlt⟩
        obtain ⟨y, hy, hvy⟩ := h3.get hx0
        exact ⟨y, hy, hx y ⟨x, hx0, hvy⟩⟩
      · simp at hz
    · exact h3.get hz

theorem Rel.ghost1 (hr : Rel P w0 m E fr h a w) (G : Nat) (g : Gh) : Rel P w0 m E (ghost1 G g fr h).1 (ghost1 G g fr h).2 a w := by
  unfold Agm.ghost1
  cases hz : Nat.blt 0 g.sz with
  | false => exact hr
  | true =>
    have hz : 0 < g.sz := Nat.le_of_ble_eq_true hz
    have hnilV : ∀ {x y : Value}, isNo x = true → V m (szB w) x y → V m (szB w) (gv h g.sz) y := by
      intro x y hx hv
      cases hv <;> first
        | (exact .sghost hz)
        | (exact .sempty)
        | (simp [isNo] at hx; done)
        | (simp [isNo] at hx; omega)
    have hnew : ∀ {h1 : AHeap} {b1 : ABlk}, Rel P w0 m E fr h1 a w → HRel P w0 m E (h1.new b1) w → m h1.next = none → Rel P w0 m E fr (h1.new b1) a w := by
      intro h1 b1 r1 hh hfr
      refine ⟨hh, r1.fr.move (MLe.refl m) (fun _ => Nat.le_refl _) (fun _ _ => rfl) fun B hl b x bs e => ?_⟩
      obtain ⟨C, el, fz, _, _, _, h6⟩ := r1.fr.local_some hl
      rw [AHeap.get_new] at e
      split at e
      · rename_i hb; rw [hb, hfr]; simp
      · exact h6 b x bs e
    simp only [Bool.not_true, cond_false]
    split
    · split
      · rename_i vv hs
        cases hno : isNo vv with
        | false => exact hr
        | true =>
        simp only [cond_true]
        have hr2 := hnew hr hr.hr.ghostNew hr.hr.fresh
        have hv := hr.fr.v hs
        have hslt : g.slot < fr.length := by
          rcases Nat.lt_or_ge g.slot fr.length with hh | hh
          · exact hh
          · have := getF_some (fr := fr) hs (by simp)
            rw [List.getElem?_eq_none hh] at this; simp at this
        refine ⟨hr2.hr, hr2.fr.defers, by rw [List.length_set]; exact hr2.fr.len, ?_, ?_⟩
        · intro i x e
          rw [set_get] at e
          split at e
          · rename_i hi
            injection e with e
            subst e
            rw [hi.1]
            exact hnilV hno hv
          · have := hr2.fr.slot i x e
            cases x with
            | v x => exact this
            | tup xs => exact this
            | blk cs => exact this
            | ref s off =>
              intro cs hcs
              rw [set_get] at hcs
              split at hcs
              · simp at hcs
              · exact this cs hcs
            | dead => trivial
        · intro i j c1 c2 B e1 e2
          rw [set_get] at e1 e2
          split at e1
          · simp at e1
          · split at e2
            · simp at e2
            · exact hr2.fr.dis i j c1 c2 B e1 e2
      · exact hr
    · rename_i sel j hc
      split
      · rename_i b off sp hp
        split
        · rename_i cs rw' hg
          split
          · rename_i vv hn
            cases hno : isNo vv with
            | false => exact hr
            | true =>
            simp only [cond_true]
            rw [nth_eq] at hn
            have hh := hr.hr.recell (cs' := cs.set j (gv h g.sz)) hg (List.length_set) fun C bs hv => hv.set (by rfl) fun y hy => by
              obtain ⟨x, hx, hvx⟩ := hy
              rw [hn] at hx
              injection hx with hx
              subst hx
              exact hnilV hno hvx
            have r1 : Rel P w0 m E fr (h.put b (.cells (cs.set j (gv h g.sz)) rw')) a w := by
              refine ⟨hh, hr.fr.move (MLe.refl m) (fun _ => Nat.le_refl _) (fun _ _ => rfl) fun B hl i x bs e => ?_⟩
              obtain ⟨C, el, fz, _, _, _, h6⟩ := hr.fr.local_some hl
              rw [AHeap.get_put] at e
              split at e
              · rename_i hi; rw [hi]; exact h6 b _ bs hg
              · exact h6 i x bs e
            exact hnew r1 r1.hr.ghostNew r1.hr.fresh
          · exact hr
        · exact hr
      · exact hr

theorem Rel.ghosts (hr : Rel P w0 m E fr h a w) (G : Nat) (gs : List Gh) : Rel P w0 m E (Agm.ghosts G gs fr h).1 (Agm.ghosts G gs fr h).2 a w := by
  induction gs generalizing fr h with
  | nil => exact hr
  | cons g r ih => exact ih (hr.ghost1 G g)

end Go.Agm
