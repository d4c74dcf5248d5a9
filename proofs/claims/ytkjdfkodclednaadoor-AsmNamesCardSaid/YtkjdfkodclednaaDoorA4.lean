/- An abstract machine for one goroutine: more fuel gives the same answer; what comes of all fuels; a run as a statement. No condition. -/
import Derived.Test.YtkjdfkodclednaaDoorA3
namespace Go.Agm
universe u v
variable {A : Sort u} {B : Sort v} {P : Program} {loc : Nat → Bool} {F : FT}

/-- Two kinds of answers, side by side: what fails, what calls. -/
structure MRel0 (R : A → B → Prop) (M : Mach A) (N : Mach B) : Prop where
  fail : R M.fail N.fail
  call : ∀ g xs h k l, (∀ rs h, R (k rs h) (l rs h)) → R (M.call g xs h k) (N.call g xs h l)

/-- And what returns. -/
structure MRel (R : A → B → Prop) (M : Mach A) (N : Mach B) : Prop extends MRel0 R M N where
  ret : ∀ rs h, R (M.ret rs h) (N.ret rs h)

variable {R : A → B → Prop} {M : Mach A} {N : Mach B}

theorem on_rel (hM : MRel0 R M N) {α : Type} {x : Option α} {f : α → A} {g : α → B} (h : ∀ a, R (f a) (g a)) : R (M.on x f) (N.on x g) := by
  cases x with
  | none => exact hM.fail
  | some a => exact h a

theorem cond_rel {b : Bool} {x y : A} {z w : B} (h1 : R x z) (h2 : R y w) : R (bif b then x else y) (bif b then z else w) := by
  cases b
  · exact h2
  · exact h1

theorem opK_rel (hM : MRel0 R M N) {o : Oper} {fr : List AV} {k : AV → AHeap → A} {l : AV → AHeap → B} {h : AHeap}
    (hk : ∀ x h, R (k x h) (l x h)) : R (opK P loc M o fr k h) (opK P loc N o fr l h) := by
  obtain ⟨dst, op, ty, pos, after, guard⟩ := o
  cases op <;> simp only [opK] <;> repeat' (first | exact hM.fail | exact hk _ _ | (refine on_rel hM fun _ => ?_) | (refine hM.call _ _ _ _ _ fun _ _ => ?_) | (refine cond_rel ?_ ?_) | split)

theorem storeK_rel (hM : MRel0 R M N) {t : TypeId} {a x : Operand} {fr : List AV} {k : List AV → AHeap → A} {l : List AV → AHeap → B} {h : AHeap}
    (hk : ∀ fr h, R (k fr h) (l fr h)) : R (storeK P M t a x fr k h) (storeK P N t a x fr l h) := by
  unfold storeK
  repeat' (first | exact hM.fail | exact hk _ _ | (refine on_rel hM fun _ => ?_) | (refine cond_rel ?_ ?_) | split)

theorem stepK_rel (hM : MRel0 R M N) {o : Oper} {fr : List AV} {k : List AV → AHeap → A} {l : List AV → AHeap → B} {h : AHeap}
    (hk : ∀ fr h, R (k fr h) (l fr h)) : R (stepK P loc M o fr k h) (stepK P loc N o fr l h) := by
  unfold stepK
  repeat' (first | exact hM.fail | exact storeK_rel hM hk | exact opK_rel hM (fun _ _ => hk _ _) | split)

theorem opsK_rel (hM : MRel0 R M N) {ops : Array Oper} {k : List AV → AHeap → A} {l : List AV → AHeap → B} (hk : ∀ fr h, R (k fr h) (l fr h)) :
    ∀ (is : List Nat) (fr : List AV) (h : AHeap), R (opsK P loc M ops is fr k h) (opsK P loc N ops is fr l h) := by
  intro is
  induction is with
  | nil => exact fun fr h => hk fr h
  | cons i is ih =>
    intro fr h
    simp only [opsK]
    repeat' (first | exact hM.fail | exact ih _ _ | exact stepK_rel hM (fun _ _ => ih _ _) | (refine cond_rel ?_ ?_) | split)

theorem opsC_rel (hM : MRel0 R M N) {ops : Array Oper} {pre : Array Nat} {k : List AV → AHeap → A} {l : List AV → AHeap → B} (hk : ∀ fr h, R (k fr h) (l fr h)) :
    ∀ (is done : List Nat) (fr : List AV) (h : AHeap), R (opsC P loc M ops pre done is fr k h) (opsC P loc N ops pre done is fr l h) := by
  intro is
  induction is with
  | nil => exact fun _ fr h => hk fr h
  | cons i is ih =>
    intro done fr h
    simp only [opsC]
    repeat' (first | exact hM.fail | exact ih _ _ _ | exact stepK_rel hM (fun _ _ => cond_rel (ih _ _ _) hM.fail) | (refine cond_rel ?_ ?_) | split)

theorem drawK_rel (hM : MRel0 R M N) {ops : Array Oper} {fr : List AV} {k : List AV → AHeap → A} {l : List AV → AHeap → B} {h : AHeap} (hk : ∀ fr h, R (k fr h) (l fr h)) :
    R (drawK P loc M ops fr k h) (drawK P loc N ops fr l h) := by
  unfold drawK
  refine cond_rel (opsC_rel hM hk _ _ _ _) ?_
  split
  · exact opsC_rel hM hk _ _ _ _
  · exact hM.fail

theorem goStep_rel (hM : MRel R M N) {fn : Func} {todo : List Item} {fr : List AV} {k : List Item → List AV → AHeap → A} {l : List Item → List AV → AHeap → B} {h : AHeap}
    (hk : ∀ t fr h, R (k t fr h) (l t fr h)) : R (goStep P F M fn todo fr k h) (goStep P F N fn todo fr l h) := by
  unfold goStep
  repeat' (first | exact hM.fail | exact hk _ _ _ | exact on_rel hM.toMRel0 (fun _ => hM.ret _ _) | exact drawK_rel hM.toMRel0 (fun _ _ => hk _ _ _) | exact opsK_rel hM.toMRel0 (fun _ _ => hk _ _ _) _ _ _ | (refine cond_rel ?_ ?_) | split)

theorem segK_rel (hM : MRel R M N) {fn : Func} {cuts : List Nat} : ∀ (n : Nat) {todo : List Item} {fr : List AV} {k : List Item → List AV → AHeap → A} {l : List Item → List AV → AHeap → B} {h : AHeap}
    (_ : ∀ t fr h, R (k t fr h) (l t fr h)), R (segK P F M fn cuts n todo fr k h) (segK P F N fn cuts n todo fr l h) := by
  intro n
  induction n with
  | zero => exact fun hk => hk _ _ _
  | succ n ih =>
    intro todo fr k l h hk
    simp only [segK]
    refine goStep_rel hM fun t fr h => ?_
    split
    · exact cond_rel (hk _ _ _) (ih hk)
    · exact ih hk

/-! More fuel, the same answer. -/

def CLe (c d : Calls1) : Prop := ∀ f args h r, c f args h = some r → d f args h = some r

theorem optM_le {c d : Calls1} (hc : CLe c d) (r : Res) : MRel (fun x y : Option Res => x = some r → y = some r) (optM c) (optM d) where
  fail := id
  ret := fun _ _ => id
  call := fun g xs h k l hk => by
    simp only [optM]
    cases e : c g xs h with
    | none => simp
    | some a => rw [hc _ _ _ _ e]; exact hk _ _

theorem goK_mono {c d : Calls1} {fn : Func} (hc : CLe c d) : ∀ (n m : Nat) (todo : List Item) (fr : List AV) (h : AHeap) (r : Res), n ≤ m → goK P F c fn n todo fr h = some r → goK P F d fn m todo fr h = some r := by
  intro n
  induction n with
  | zero => intro m todo fr h r _ e; simp [goK] at e
  | succ n ih =>
    intro m todo fr h r hm
    obtain ⟨m, rfl⟩ : ∃ k, m = k + 1 := ⟨m - 1, by omega⟩
    simp only [goK]
    exact goStep_rel (R := fun x y => x = some r → y = some r) (optM_le hc r) (fun _ _ _ => ih m _ _ _ _ (by omega))

theorem runK_mono {T : Tbl} : ∀ (n m : Nat), n ≤ m → CLe (runK P T n) (runK P T m) := by
  intro n
  induction n with
  | zero => intro m _ f args h r e; simp [runK] at e
  | succ n ih =>
    intro m hm f args h r
    obtain ⟨m, rfl⟩ : ∃ k, m = k + 1 := ⟨m - 1, by omega⟩
    simp only [runK]
    repeat' (first | exact id | exact goK_mono (ih m (by omega)) _ _ _ _ _ _ (by omega) | split)

/-! What comes of all fuels. -/

open Classical in
noncomputable def lim {α : Type} (f : Nat → Option α) : Option α := if h : ∃ n, (f n).isSome then f h.choose else none

theorem lim_of {α : Type} {f : Nat → Option α} (hm : ∀ n m r, n ≤ m → f n = some r → f m = some r) {n : Nat} {r : α} (h : f n = some r) : lim f = some r := by
  unfold lim
  have hx : ∃ n, (f n).isSome := ⟨n, by simp [h]⟩
  rw [dif_pos hx]
  obtain ⟨s, hs⟩ := Option.isSome_iff_exists.1 hx.choose_spec
  rcases Nat.le_total n hx.choose with hn | hn
  · exact hm _ _ _ hn h
  · have := hm _ _ _ hn hs
    rw [hs, ← this, h]

theorem of_lim {α : Type} {f : Nat → Option α} {r : α} (h : lim f = some r) : ∃ n, f n = some r := by
  unfold lim at h
  split at h
  · exact ⟨_, h⟩
  · simp at h

noncomputable def run (P : Program) (T : Tbl) : Calls1 := fun f args h => lim fun n => runK P T n f args h

theorem run_of {T : Tbl} {n : Nat} {f : FuncId} {args : List Value} {h : AHeap} {r : Res} (e : runK P T n f args h = some r) : run P T f args h = some r :=
  lim_of (fun a b _ hab => runK_mono a b hab _ _ _ _) e

noncomputable def go (P : Program) (T : Tbl) (f : FuncId) (fn : Func) (todo : List Item) (fr : List AV) (h : AHeap) : Option Res :=
  lim fun n => goK P (T.ft f) (runK P T n) fn n todo fr h

theorem go_of {T : Tbl} {f : FuncId} {fn : Func} {n : Nat} {todo : List Item} {fr : List AV} {h : AHeap} {r : Res} (e : goK P (T.ft f) (runK P T n) fn n todo fr h = some r) : go P T f fn todo fr h = some r :=
  lim_of (fun a b _ hab => goK_mono (runK_mono a b hab) _ _ _ _ _ _ hab) e

/-- Answers of all fuels. -/
def natM (c : Nat → Calls1) : Mach (Nat → Option Res) := { fail := fun _ => none, ret := fun rs h _ => some (rs, h), call := fun g xs h k n => (c n g xs h).bind fun p => k p.1 p.2 n }

theorem natM_at (c : Nat → Calls1) (n : Nat) : MRel (fun (x : Nat → Option Res) (y : Option Res) => x n = y) (natM c) (optM (c n)) where
  fail := rfl
  ret := fun _ _ => rfl
  call := fun g xs h k l hk => by
    simp only [natM, optM]
    cases c n g xs h with
    | none => rfl
    | some a => exact hk _ _

/-- A call that all fuels know is known by one; more fuel knows more. -/
structure Cont (c : Nat → Calls1) (d : Calls1) : Prop where
  mono : ∀ n m, n ≤ m → CLe (c n) (c m)
  cont : ∀ f args h r, d f args h = some r → ∃ n, c n f args h = some r

theorem natM_cont {c : Nat → Calls1} {d : Calls1} (hc : Cont c d) (r : Res) :
    MRel (fun (x : Option Res) (y : Nat → Option Res) => (x = some r → ∃ n, y n = some r) ∧ ∀ n m, n ≤ m → y n = some r → y m = some r) (optM d) (natM c) where
  fail := ⟨by simp [optM], by simp [natM]⟩
  ret := fun _ _ => ⟨fun e => ⟨0, e⟩, fun _ _ _ => id⟩
  call := fun g xs h k l hk => by
    simp only [natM, optM]
    constructor
    · cases e : d g xs h with
      | none => simp
      | some a =>
        intro e2
        obtain ⟨n1, h1⟩ := hc.cont _ _ _ _ e
        obtain ⟨n2, h2⟩ := (hk a.1 a.2).1 e2
        exact ⟨max n1 n2, by rw [hc.mono n1 _ (Nat.le_max_left _ _) _ _ _ _ h1]; exact (hk _ _).2 _ _ (Nat.le_max_right _ _) h2⟩
    · intro n m hnm
      cases e : c n g xs h with
      | none => simp
      | some a => rw [hc.mono n m hnm _ _ _ _ e]; exact (hk _ _).2 _ _ hnm

theorem cont_run {T : Tbl} : Cont (runK P T) (run P T) := ⟨runK_mono, fun _ _ _ _ e => of_lim e⟩

/-- One step of the code, and what comes of the rest. -/
theorem go_step {T : Tbl} {f : FuncId} {fn : Func} {todo : List Item} {fr : List AV} {h : AHeap} {r : Res}
    (e : goStep P (T.ft f) (optM (run P T)) fn todo fr (fun t fr h => go P T f fn t fr h) h = some r) : go P T f fn todo fr h = some r := by
  obtain ⟨n, hn⟩ := (goStep_rel (natM_cont (cont_run (P := P) (T := T)) r) (k := fun t fr h => go P T f fn t fr h) (l := fun t fr h n => goK P (T.ft f) (runK P T n) fn n t fr h)
    (fun t fr h => ⟨fun e => of_lim e, fun n m hnm => goK_mono (runK_mono n m hnm) n m t fr h r hnm⟩)).1 e
  have hn' := goStep_rel (natM_at (runK P T) n) (P := P) (F := T.ft f) (fn := fn) (todo := todo) (fr := fr) (h := h) (k := fun t fr h n => goK P (T.ft f) (runK P T n) fn n t fr h) (l := fun t fr h => goK P (T.ft f) (runK P T n) fn n t fr h) (fun _ _ _ => rfl)
  rw [hn'] at hn
  refine go_of (n := n + 1) ?_
  simp only [goK]
  exact goStep_rel (R := fun x y => x = some r → y = some r) (optM_le (runK_mono n (n + 1) (by omega)) r) (fun t fr h => goK_mono (runK_mono n (n + 1) (by omega)) n n t fr h r (Nat.le_refl _)) hn

/-- A region's frame as it is struck. -/
def maskT (F : FT) (t : List Item) (fr : List AV) : List AV := match t with
  | .code (.region id _ _) :: _ => maskF (F.mask id) fr
  | _ => fr

theorem maskF_twice (m : List Bool) (fr : List AV) : maskF m (maskF m fr) = maskF m fr := by
  induction m generalizing fr with
  | nil => rfl
  | cons b m ih => cases fr <;> cases b <;> simp [maskF, ih]

theorem goStep_mask {fn : Func} {t : List Item} {fr : List AV} {k : List Item → List AV → AHeap → A} {h : AHeap} :
    goStep P F M fn t (maskT F t fr) k h = goStep P F M fn t fr k h := by
  unfold maskT
  split
  · simp only [goStep, maskF_twice]
  · rfl

theorem goK_mask {c : Calls1} {fn : Func} {n : Nat} {t : List Item} {fr : List AV} {h : AHeap} : goK P F c fn n t (maskT F t fr) h = goK P F c fn n t fr h := by
  cases n with
  | zero => rfl
  | succ n => simp only [goK]; exact goStep_mask

theorem go_mask {T : Tbl} {f : FuncId} {fn : Func} {t : List Item} {fr : List AV} {h : AHeap} : go P T f fn t (maskT (T.ft f) t fr) h = go P T f fn t fr h := by
  unfold go
  exact congrArg lim (funext fun n => goK_mask)

theorem go_seg {T : Tbl} {f : FuncId} {fn : Func} {cuts : List Nat} : ∀ (n : Nat) {t : List Item} {fr : List AV} {h : AHeap} {r : Res},
    segK P (T.ft f) (optM (run P T)) fn cuts n t fr (fun t fr h => go P T f fn t fr h) h = some r → go P T f fn t fr h = some r := by
  intro n
  induction n with
  | zero => exact id
  | succ n ih =>
    intro t fr h r e
    refine go_step (goStep_rel (R := fun x y => x = some r → y = some r) (optM_le (fun _ _ _ _ => id) r) ?_ e)
    intro t fr h
    split
    · rename_i id ops d t
      refine fun e => ?_
      cases hc : cuts.contains id with
      | true =>
        rw [hc] at e
        have := go_mask (P := P) (T := T) (f := f) (fn := fn) (t := .code (.region id ops d) :: t) (fr := fr) (h := h)
        rw [← this]; exact e
      | false => rw [hc] at e; exact ih e
    · exact ih

/-- A function: its code from its begin on. -/
theorem run_go {T : Tbl} {f : FuncId} {fn : Func} {c : Code} {args : List Value} {h : AHeap} {r : Res} (hp : T.prim f = none) (hf : P.funcs[f]? = some fn) (hb : fn.body = some c)
    (e : go P T f fn [.code c] (startF fn args) h = some r) : run P T f args h = some r := by
  obtain ⟨n, hn⟩ := of_lim e
  refine run_of (n := n + 1) ?_
  simp only [runK, hp, hf, hb]
  exact goK_mono (fun _ _ _ _ => id) _ _ _ _ _ _ (by omega) hn

theorem run_prim {T : Tbl} {f : FuncId} {g : List Value → Option (List Value)} {args rs : List Value} {h : AHeap} (hp : T.prim f = some g) (e : g args = some rs) : run P T f args h = some (rs, h) :=
  run_of (n := 1) (by simp [runK, hp, e])

/-! A run as a statement. -/

/-- A call comes to an answer of which Q holds. -/
inductive Runs (P : Program) (T : Tbl) (f : FuncId) (args : List Value) (h : AHeap) (Q : List Value → AHeap → Prop) : Prop where
  | mk (rs : List Value) (h' : AHeap) (e : run P T f args h = some (rs, h')) (q : Q rs h')
inductive Goes (P : Program) (T : Tbl) (f : FuncId) (fn : Func) (t : List Item) (fr : List AV) (h : AHeap) (Q : List Value → AHeap → Prop) : Prop where
  | mk (rs : List Value) (h' : AHeap) (e : go P T f fn t fr h = some (rs, h')) (q : Q rs h')

theorem Runs.mono {T : Tbl} {f : FuncId} {args : List Value} {h : AHeap} {Q Q' : List Value → AHeap → Prop} (x : Runs P T f args h Q) (hq : ∀ rs h', Q rs h' → Q' rs h') : Runs P T f args h Q' :=
  let ⟨rs, h', e, q⟩ := x; ⟨rs, h', e, hq _ _ q⟩
theorem Goes.mono {T : Tbl} {f : FuncId} {fn : Func} {t : List Item} {fr : List AV} {h : AHeap} {Q Q' : List Value → AHeap → Prop} (x : Goes P T f fn t fr h Q) (hq : ∀ rs h', Q rs h' → Q' rs h') : Goes P T f fn t fr h Q' :=
  let ⟨rs, h', e, q⟩ := x; ⟨rs, h', e, hq _ _ q⟩

/-- Statements as answers. -/
def stM (P : Program) (T : Tbl) (Q : List Value → AHeap → Prop) : Mach Prop := { fail := False, ret := Q, call := fun g xs h k => Runs P T g xs h k }

theorem stM_opt {T : Tbl} {Q : List Value → AHeap → Prop} : MRel (fun (x : Prop) (y : Option Res) => x → ∃ rs h, y = some (rs, h) ∧ Q rs h) (stM P T Q) (optM (run P T)) where
  fail := False.elim
  ret := fun rs h q => ⟨rs, h, rfl, q⟩
  call := fun g xs h k l hk ⟨rs, h', e, q⟩ => by
    simp only [optM, e, Option.bind_some]
    exact hk _ _ q

theorem goes_seg {T : Tbl} {f : FuncId} {fn : Func} {t : List Item} {fr : List AV} {h : AHeap} {Q : List Value → AHeap → Prop} (cuts : List Nat) (n : Nat)
    (e : segK P (T.ft f) (stM P T Q) fn cuts n t fr (fun t fr h => Goes P T f fn t fr h Q) h) : Goes P T f fn t fr h Q := by
  obtain ⟨rs, h', e, q⟩ := segK_rel (stM_opt (P := P) (T := T) (Q := Q)) n (k := fun t fr h => Goes P T f fn t fr h Q) (l := fun t fr h => go P T f fn t fr h) (fun _ _ _ ⟨rs, h, e, q⟩ => ⟨rs, h, e, q⟩) e
  exact ⟨rs, h', go_seg n e, q⟩

theorem runs_goes {T : Tbl} {f : FuncId} {fn : Func} {c : Code} {args : List Value} {h : AHeap} {Q : List Value → AHeap → Prop} (hp : T.prim f = none) (hf : P.funcs[f]? = some fn) (hb : fn.body = some c)
    (e : Goes P T f fn [.code c] (startF fn args) h Q) : Runs P T f args h Q :=
  let ⟨rs, h', e, q⟩ := e; ⟨rs, h', run_go hp hf hb e, q⟩

theorem runs_run {T : Tbl} {f : FuncId} {args : List Value} {h : AHeap} {Q : List Value → AHeap → Prop} {r : Res} (e : run P T f args h = some r) (q : Q r.1 r.2) : Runs P T f args h Q := ⟨r.1, r.2, e, q⟩

end Go.Agm
