/- An abstract machine for one goroutine: calls that go on in their callees, beside those that have contracts. No condition. -/
import Derived.Test.YtkjdfkodclednaaDoorB7
namespace Go.Agm
universe u v

variable {P : Program} {loc : Nat → Bool} {F : FT}

section
variable {A : Sort u} {B : Sort v} {R : A → B → Prop} {M : Mach A} {N : Mach B}

theorem subK_rel (hM : MRel0 R M N) {t : TypeId} {x : Value} {lo hi : Option Value} {k : Value → A} {l : Value → B} (hk : ∀ y, R (k y) (l y)) : R (subK P M t x lo hi k) (subK P N t x lo hi l) := by
  unfold subK
  repeat' (first | exact hM.fail | exact hk _ | (refine on_rel hM fun _ => ?_) | (refine cond_rel ?_ ?_) | split)
theorem clearK_rel (hM : MRel0 R M N) {t : TypeId} {d : Value} {h : AHeap} {k : AHeap → A} {l : AHeap → B} (hk : ∀ y, R (k y) (l y)) : R (clearK P M t d h k) (clearK P N t d h l) := by
  unfold clearK
  repeat' (first | exact hM.fail | exact hk _ | (refine on_rel hM fun _ => ?_) | (refine cond_rel ?_ ?_) | split)
theorem appendK_rel (hM : MRel0 R M N) {t xt : TypeId} {s x : Value} {h : AHeap} {k : Value → AHeap → A} {l : Value → AHeap → B} (hk : ∀ y h, R (k y h) (l y h)) : R (appendK P M t xt s x h k) (appendK P N t xt s x h l) := by
  unfold appendK
  repeat' (first | exact hM.fail | exact hk _ _ | (refine on_rel hM fun _ => ?_) | (refine cond_rel ?_ ?_) | split)
theorem unsK_rel (hM : MRel0 R M N) {t : TypeId} {a n : Value} {h : AHeap} {k : Value → AHeap → A} {l : Value → AHeap → B} (hk : ∀ y h, R (k y h) (l y h)) : R (unsK P M t a n h k) (unsK P N t a n h l) := by
  unfold unsK
  repeat' (first | exact hM.fail | exact hk _ _ | (refine on_rel hM fun _ => ?_) | (refine cond_rel ?_ ?_) | split)
theorem sdK_rel (hM : MRel0 R M N) {a : Value} {k : Value → A} {l : Value → B} (hk : ∀ y, R (k y) (l y)) : R (sdK M a k) (sdK N a l) := by
  unfold sdK
  repeat' (first | exact hM.fail | exact hk _ | (refine on_rel hM fun _ => ?_) | (refine cond_rel ?_ ?_) | split)
theorem convK_rel (hM : MRel0 R M N) {s d : TypeId} {a : Value} {h : AHeap} {k : Value → A} {l : Value → B} (hk : ∀ y, R (k y) (l y)) : R (convK P M s d a h k) (convK P N s d a h l) := by
  unfold convK
  repeat' (first | exact hM.fail | exact hk _ | (refine on_rel hM fun _ => ?_) | (refine cond_rel ?_ ?_) | split)
theorem indexK_rel (hM : MRel0 R M N) {t : TypeId} {x i : Value} {k : Value → A} {l : Value → B} (hk : ∀ y, R (k y) (l y)) : R (indexK P M t x i k) (indexK P N t x i l) := by
  unfold indexK
  repeat' (first | exact hM.fail | exact hk _ | (refine on_rel hM fun _ => ?_) | (refine cond_rel ?_ ?_) | split)
theorem subArrK_rel (hM : MRel0 R M N) {t : TypeId} {b off : Nat} {lo hi : Option Value} {h : AHeap} {k : Value → A} {l : Value → B} (hk : ∀ y, R (k y) (l y)) : R (subArrK P M t b off lo hi h k) (subArrK P N t b off lo hi h l) := by
  unfold subArrK
  repeat' (first | exact hM.fail | exact hk _ | (refine on_rel hM fun _ => ?_) | (refine cond_rel ?_ ?_) | split)
theorem copyK_rel (hM : MRel0 R M N) {t : TypeId} {d x : Value} {h : AHeap} {k : Value → AHeap → A} {l : Value → AHeap → B} (hk : ∀ y h, R (k y h) (l y h)) : R (copyK P M t d x h k) (copyK P N t d x h l) := by
  unfold copyK
  repeat' (first | exact hM.fail | exact hk _ _ | (refine on_rel hM fun _ => ?_) | (refine cond_rel ?_ ?_) | split)
theorem opK2_rel (hM : MRel0 R M N) {o : Oper} {fr : List AV} {k : AV → AHeap → A} {l : AV → AHeap → B} {h : AHeap} (hk : ∀ x h, R (k x h) (l x h)) : R (opK2 P loc M o fr k h) (opK2 P loc N o fr l h) := by
  unfold opK2
  repeat' (first | exact hM.fail | exact hk _ _ | exact opK_rel hM hk | exact subK_rel hM (fun _ => hk _ _) | exact subArrK_rel hM (fun _ => hk _ _) | exact copyK_rel hM (fun _ _ => hk _ _) | exact clearK_rel hM (fun _ => hk _ _) | exact appendK_rel hM (fun _ _ => hk _ _) | exact unsK_rel hM (fun _ _ => hk _ _) | exact sdK_rel hM (fun _ => hk _ _) | exact convK_rel hM (fun _ => hk _ _) | exact indexK_rel hM (fun _ => hk _ _) | (refine on_rel hM fun _ => ?_) | (refine cond_rel ?_ ?_) | split)
theorem stepK2_rel (hM : MRel0 R M N) {o : Oper} {fr : List AV} {k : List AV → AHeap → A} {l : List AV → AHeap → B} {h : AHeap} (hk : ∀ fr h, R (k fr h) (l fr h)) : R (stepK2 P loc M o fr k h) (stepK2 P loc N o fr l h) := by
  unfold stepK2
  repeat' (first | exact hM.fail | exact storeK_rel hM hk | exact opK2_rel hM (fun _ _ => hk _ _) | split)
theorem opsK2_rel (hM : MRel0 R M N) {ops : Array Oper} {k : List AV → AHeap → A} {l : List AV → AHeap → B} (hk : ∀ fr h, R (k fr h) (l fr h)) :
    ∀ (is : List Nat) (fr : List AV) (h : AHeap), R (opsK2 P loc M ops is fr k h) (opsK2 P loc N ops is fr l h) := by
  intro is
  induction is with
  | nil => exact fun fr h => hk fr h
  | cons i is ih =>
    intro fr h
    simp only [opsK2]
    repeat' (first | exact hM.fail | exact ih _ _ | exact stepK2_rel hM (fun _ _ => ih _ _) | (refine cond_rel ?_ ?_) | split)
theorem opsC2_rel (hM : MRel0 R M N) {ops : Array Oper} {pre : Array Nat} {k : List AV → AHeap → A} {l : List AV → AHeap → B} (hk : ∀ fr h, R (k fr h) (l fr h)) :
    ∀ (is done : List Nat) (fr : List AV) (h : AHeap), R (opsC2 P loc M ops pre done is fr k h) (opsC2 P loc N ops pre done is fr l h) := by
  intro is
  induction is with
  | nil => exact fun _ fr h => hk fr h
  | cons i is ih =>
    intro done fr h
    simp only [opsC2]
    repeat' (first | exact hM.fail | exact ih _ _ _ | exact stepK2_rel hM (fun _ _ => cond_rel (ih _ _ _) hM.fail) | (refine cond_rel ?_ ?_) | split)
theorem drawK2_rel (hM : MRel0 R M N) {ops : Array Oper} {fr : List AV} {k : List AV → AHeap → A} {l : List AV → AHeap → B} {h : AHeap} (hk : ∀ fr h, R (k fr h) (l fr h)) : R (drawK2 P loc M ops fr k h) (drawK2 P loc N ops fr l h) := by
  unfold drawK2
  refine cond_rel (opsC2_rel hM hk _ _ _ _) ?_
  split
  · exact opsC2_rel hM hk _ _ _ _
  · exact hM.fail
theorem goStep2_rel (hM : MRel R M N) {fn : Func} {todo : List Item} {fr : List AV} {k : List Item → List AV → AHeap → A} {l : List Item → List AV → AHeap → B} {h : AHeap} (hk : ∀ t fr h, R (k t fr h) (l t fr h)) :
    R (goStep2 P F M fn todo fr k h) (goStep2 P F N fn todo fr l h) := by
  unfold goStep2
  split
  · exact cond_rel (drawK2_rel hM.toMRel0 fun _ _ => hk _ _ _) (opsK2_rel hM.toMRel0 (fun _ _ => hk _ _ _) _ _ _)
  · exact goStep_rel hM hk
theorem segK2_rel (hM : MRel R M N) {fn : Func} {cuts : List Nat} : ∀ (n : Nat) {todo : List Item} {fr : List AV} {k : List Item → List AV → AHeap → A} {l : List Item → List AV → AHeap → B} {h : AHeap}
    (_ : ∀ t fr h, R (k t fr h) (l t fr h)), R (segK2 P F M fn cuts n todo fr k h) (segK2 P F N fn cuts n todo fr l h) := by
  intro n
  induction n with
  | zero => exact fun hk => hk _ _ _
  | succ n ih =>
    intro todo fr k l h hk
    simp only [segK2]
    refine goStep2_rel hM fun t fr h => ?_
    split
    · exact cond_rel (hk _ _ _) (ih hk)
    · exact ih hk
end

/-- Code by steps with branches. -/
def goI {A : Sort u} (P : Program) (F : FT) (M : Mach A) (fn : Func) : Nat → List Item → List AV → AHeap → A
  | 0, _, _, _ => M.fail
  | n + 1, t, fr, h => goStep2 P F M fn t fr (fun t fr h => goI P F M fn n t fr h) h

/-- A call: by its contract, or in its callee. -/
def inl (P : Program) (ft : FuncId → FT) (c : CallsP) (fuel : Nat) : Nat → FuncId → List Value → AHeap → (List Value → AHeap → Prop) → Prop
  | 0, _, _, _, _ => False
  | n + 1, g, xs, h, k => match c g xs h with
    | some p => p.1 ∧ k p.2.1 p.2.2
    | none => match P.funcs[g]? with
      | some fn => match fn.body with
        | some cd => goI P (ft g) { fail := False, ret := k, call := inl P ft c fuel n } fn fuel [.code cd] (startF fn xs) h
        | none => False
      | none => False

open Classical in
noncomputable def runC (P : Program) (ft : FuncId → FT) (c : CallsP) (fuel : Nat) : Nat → Calls1
  | 0, _, _, _ => none
  | n + 1, g, xs, h => match c g xs h with
    | some p => if p.1 then some p.2 else none
    | none => match P.funcs[g]? with
      | some fn => match fn.body with
        | some cd => goK P (ft g) (runC P ft c fuel n) fn fuel [.code cd] (startF fn xs) h
        | none => none
      | none => none

variable {w0 : World} {c : CallsP} {ft : FuncId → FT} {fuel : Nat}

theorem inl_mono : ∀ (n : Nat) {g : FuncId} {xs : List Value} {h : AHeap} {k l : List Value → AHeap → Prop}, (∀ rs h, k rs h → l rs h) → inl P ft c fuel n g xs h k → inl P ft c fuel n g xs h l := by
  intro n
  induction n with
  | zero => intro g xs h k l _ e; exact e
  | succ n ih =>
    intro g xs h k l hk e
    simp only [inl] at e ⊢
    split at e
    · exact ⟨e.1, hk _ _ e.2⟩
    · split at e
      · split at e
        · rename_i fn hfn _ cd hcd
          have hm : MRel (fun x y : Prop => x → y) ({ fail := False, ret := k, call := inl P ft c fuel n } : Mach Prop) { fail := False, ret := l, call := inl P ft c fuel n } :=
            ⟨⟨id, fun g xs h k l hk => ih hk⟩, fun rs h => hk rs h⟩
          have key : ∀ (f : Nat) (t : List Item) (fr : List AV) (h : AHeap), goI P (ft g) ({ fail := False, ret := k, call := inl P ft c fuel n } : Mach Prop) fn f t fr h → goI P (ft g) ({ fail := False, ret := l, call := inl P ft c fuel n } : Mach Prop) fn f t fr h := by
            intro f
            induction f with
            | zero => exact fun _ _ _ => id
            | succ f ihf => exact fun t fr h => goStep2_rel hm fun t fr h => ihf t fr h
          exact key _ _ _ _ e
        · exact e
      · exact e

theorem inl_run : ∀ (n : Nat) {g : FuncId} {xs : List Value} {h : AHeap} {k : List Value → AHeap → Prop}, inl P ft c fuel n g xs h k → ∃ r, runC P ft c fuel n g xs h = some r ∧ k r.1 r.2 := by
  intro n
  induction n with
  | zero => intro g xs h k e; exact e.elim
  | succ n ih =>
    intro g xs h k e
    simp only [inl] at e
    simp only [runC]
    split at e
    · rename_i p hp
      exact ⟨p.2, by simp [e.1], e.2⟩
    · rename_i hp
      split at e
      · rename_i fn hfn
        split at e
        · rename_i cd hcd
          have key : ∀ (f : Nat) (t : List Item) (fr : List AV) (h : AHeap), goI P (ft g) ({ fail := False, ret := k, call := inl P ft c fuel n } : Mach Prop) fn f t fr h → ∃ r, goK P (ft g) (runC P ft c fuel n) fn f t fr h = some r ∧ k r.1 r.2 := by
            intro f
            induction f with
            | zero => exact fun _ _ _ e => e.elim
            | succ f ihf =>
              intro t fr h e
              have hm0 : MRel (fun x y : Prop => x → y) ({ fail := False, ret := k, call := inl P ft c fuel n } : Mach Prop) { fail := False, ret := k, call := inl P ft c fuel n } :=
                ⟨⟨id, fun g xs h k l hk => inl_mono n hk⟩, fun _ _ => id⟩
              have e1 := goStep2_le (F := ft g) (fun _ => False.elim) hm0 (fn := fn) (todo := t) (fr := fr) (h := h) (k := fun t fr h => goI P (ft g) ({ fail := False, ret := k, call := inl P ft c fuel n } : Mach Prop) fn f t fr h) (l := fun t fr h => goI P (ft g) ({ fail := False, ret := k, call := inl P ft c fuel n } : Mach Prop) fn f t fr h) (fun _ _ _ => id) e
              have hm : MRel (fun (x : Prop) (y : Option Res) => x → ∃ r, y = some r ∧ k r.1 r.2) ({ fail := False, ret := k, call := inl P ft c fuel n } : Mach Prop) (optM (runC P ft c fuel n)) := by
                refine ⟨⟨False.elim, fun g xs h k' l hk e => ?_⟩, fun rs h q => ⟨(rs, h), rfl, q⟩⟩
                obtain ⟨r, hr, hkr⟩ := ih e
                simp only [optM, hr, Option.bind_some]
                exact hk _ _ hkr
              simp only [goK]
              exact goStep_rel hm (fun t fr h => ihf t fr h) e1
          exact key _ _ _ _ e
        · exact e.elim
      · exact e.elim

theorem runC_ok (hmix : P.follows .mixedOrders = true) (hc : CallsOk P w0 c) : ∀ n, CallOk P w0 (runC P ft c fuel n) := by
  intro n
  induction n with
  | zero => intro f args h rs h' e; simp [runC] at e
  | succ n ih =>
    intro f args h rs h' e m E w args' hr hv he
    simp only [runC] at e
    split at e
    · rename_i p hp
      split at e
      · rename_i hpp
        injection e with e
        obtain ⟨p1, p2⟩ := p
        subst e
        exact hc f args h p1 rs h' hp hpp m E w args' hr hv he
      · simp at e
    · split at e
      · rename_i fn hfn
        split at e
        · rename_i cd hcd
          intro cs
          let b : Frame := { (default : Frame) with fn := f, kind := .normal }
          have henter : Frame.enter P f args'.toArray .normal = b.at { tmps := args'.toArray ++ Array.replicate (fn.ntmps - args'.toArray.size) undef, defers := [] } [.code cd] := by
            simp [Frame.enter, Frame.at, hfn, hcd, b]
          obtain ⟨w', fr', v, m', k1, k2, k3, k4, k5, k6, k7⟩ := goK_sound hmix ih fuel (start_rel hr hv fn) e b cs hfn rfl
          rw [← henter] at k1
          exact ⟨.returned v, w', fr', ⟨v, m', rfl, k4, k5, k6, k7⟩, k1, k2, k3⟩
        · simp at e
      · simp at e

/-- Statements whose calls go on in their callees. -/
def semI (P : Program) (ft : FuncId → FT) (c : CallsP) (fuel n : Nat) (Q : Post) : Mach Prop := { fail := False, ret := Q, call := inl P ft c fuel n }

theorem seg_semI (hmix : P.follows .mixedOrders = true) (hc : CallsOk P w0 c) {n0 : Nat} {fn : Func} {Q : Post} {leaf : List Item → List AV → AHeap → Prop} (hl : ∀ t fr h, leaf t fr h → Sem P w0 n0 fn Q t fr h) (cuts : List Nat)
    (n k : Nat) {t : List Item} {fr : List AV} {h : AHeap} (e : segK2 P F (semI P ft c fuel n Q) fn cuts k t fr leaf h) : Sem P w0 n0 fn Q t fr h := by
  have hc' : CallsOk P w0 (fun g xs h => (runC P ft c fuel n g xs h).map fun r => (True, r)) := by
    intro f args h p rs h' e hp
    rw [Option.map_eq_some_iff] at e
    obtain ⟨r, hr, hr2⟩ := e
    simp only [Prod.mk.injEq] at hr2
    obtain ⟨_, h2⟩ := hr2
    subst h2
    exact runC_ok hmix hc n f args h rs h' hr
  refine seg_sem2 (F := F) hmix hc' hl cuts k (segK2_rel (R := fun x y : Prop => x → y) (M := semI P ft c fuel n Q) (N := semM (fun g xs h => (runC P ft c fuel n g xs h).map fun r => (True, r)) Q) ⟨⟨id, fun g xs h k' l hk e => ?_⟩, fun _ _ => id⟩ k (fun _ _ _ => id) e)
  obtain ⟨r, hr, hkr⟩ := inl_run n e
  simp only [semM, hr, Option.map_some]
  exact ⟨trivial, hk _ _ hkr⟩

end Go.Agm
