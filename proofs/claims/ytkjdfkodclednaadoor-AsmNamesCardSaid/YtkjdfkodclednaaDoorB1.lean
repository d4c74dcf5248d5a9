/- An abstract machine for one goroutine: code as a statement on the model's worlds; calls by contracts that bear conditions. No condition. -/
import Derived.Test.YtkjdfkodclednaaDoorA20
namespace Go.Agm

variable {P : Program} {w0 : World} {m m' : MapN} {E : Nat → Prop} {fr : List AV} {h : AHeap} {a : Act} {w : World} {F : FT}

abbrev Post := List Value → AHeap → Prop

/-- Names below a bound keep what they name. -/
def KeptN (n : Nat) (m m' : MapN) : Prop := ∀ i, i < n → ∀ x, m i = some x → m' i = some x

/-- How a frame ends: names below a bound are kept. -/
def EndsN (P : Program) (w0 : World) (n : Nat) (m : MapN) (E : Nat → Prop) (w : World) (b : Frame) (cs : List Frame) (M : Machine) (Q : Post) : Prop :=
  ∃ rs h' w' fr' v m', Q rs h' ∧ Steps P M (lone fr' cs w') ∧ fr'.fn = b.fn ∧ fr'.leaving P w' (.returned v) ∧ KeptN n m m' ∧ HRel P w0 m' E h' w' ∧ Keep E w w' ∧ ResV m' (szB w') rs v

theorem EndsN.head {n : Nat} {b : Frame} {cs : List Frame} {M M' : Machine} {Q : Post} (hs : Steps P M M') (he : EndsN P w0 n m E w b cs M' Q) : EndsN P w0 n m E w b cs M Q := by
  obtain ⟨rs, h', w', fr', v, m', h0, h1, h2⟩ := he
  exact ⟨rs, h', w', fr', v, m', h0, hs.trans h1, h2⟩

/-- Whatever world stands beside this frame and this heap: the code comes to an answer of which Q holds. -/
def Sem (P : Program) (w0 : World) (n : Nat) (fn : Func) (Q : Post) (t : List Item) (fr : List AV) (h : AHeap) : Prop :=
  ∀ m E a w b cs, Rel P w0 m E fr h a w → P.funcs[b.fn]? = some fn → b.kind = .normal → EndsN P w0 n m E w b cs (lone (b.at a t) cs w) Q

theorem Sem.mono {n : Nat} {fn : Func} {Q Q' : Post} {t : List Item} (hq : ∀ rs h, Q rs h → Q' rs h) (s : Sem P w0 n fn Q t fr h) : Sem P w0 n fn Q' t fr h := by
  intro m E a w b cs hr hf hk
  obtain ⟨rs, h', w', fr', v, m', h0, h1⟩ := s m E a w b cs hr hf hk
  exact ⟨rs, h', w', fr', v, m', hq _ _ h0, h1⟩

/-- Contracts: what is asked, and what comes. -/
abbrev CallsP := FuncId → List Value → AHeap → Option (Prop × List Value × AHeap)

def semM (c : CallsP) (Q : Post) : Mach Prop := { fail := False, ret := Q, call := fun g xs h k => match c g xs h with
  | some p => p.1 ∧ k p.2.1 p.2.2
  | none => False }

def CallsOk (P : Program) (w0 : World) (c : CallsP) : Prop :=
  ∀ f args h p rs h', c f args h = some (p, rs, h') → p → ∀ m E w args', HRel P w0 m E h w → VL m (szB w) args args' → enters P f = true →
    Calls P f args'.toArray w fun e w' => ∃ v m', e = .returned v ∧ MLe m m' ∧ HRel P w0 m' E h' w' ∧ Keep E w w' ∧ ResV m' (szB w') rs v

open Classical in
noncomputable def c1 (c : CallsP) : Calls1 := fun f args h => match c f args h with
  | some p => if p.1 then some p.2 else none
  | none => none

theorem c1_ok {c : CallsP} (hc : CallsOk P w0 c) : CallOk P w0 (c1 c) := by
  intro f args h rs h' e
  unfold c1 at e
  split at e
  · rename_i p hp
    split at e
    · rename_i hpp
      injection e with e
      obtain ⟨p1, p2⟩ := p
      subst e
      exact hc f args h p1 rs h' hp hpp
    · simp at e
  · simp at e

/-- A token. -/
def tok : Res := ([], { next := 0, tr := .leaf })

theorem semM_opt {c : CallsP} {Q : Post} : MRel0 (fun (x : Prop) (y : Option Res) => x → y = some tok) (semM c Q) (optM (c1 c)) where
  fail := False.elim
  call := fun g xs h k l hk e => by
    simp only [semM] at e
    simp only [optM, c1]
    split at e
    · simp only [if_pos e.1, Option.bind_some]
      exact hk _ _ e.2
    · exact e.elim

open Classical in
theorem goStep_sem (hmix : P.follows .mixedOrders = true) {c : CallsP} (hc : CallsOk P w0 c) {n : Nat} {fn : Func} {Q : Post} {todo : List Item}
    (e : goStep P F (semM c Q) fn todo fr (fun t fr h => Sem P w0 n fn Q t fr h) h) : Sem P w0 n fn Q todo fr h := by
  intro m E a w b cs hr hf hk
  have fin : ∀ fr2 : Frame, fr2 = { b.at a todo with mode := .returning } → (semM c Q).on (resL P fr h fn.results.toList) (fun rs => (semM c Q).ret rs h) → Steps P (lone (b.at a todo) cs w) (lone fr2 cs w) → EndsN P w0 n m E w b cs (lone (b.at a todo) cs w) Q := by
    intro fr2 h1 h2 h3
    cases h4 : resL P fr h fn.results.toList with
    | none => rw [h4] at h2; exact h2.elim
    | some rs' =>
      rw [h4] at h2
      obtain ⟨v, h6, h7⟩ := results_run hr h4
      subst h1
      exact ⟨rs', h, w, _, v, m, h2, h3, rfl, ⟨rfl, hr.fr.defers, hk, fn, hf, h6⟩, fun _ _ _ h => h, hr.hr, Keep.refl E w, h7⟩
  unfold goStep at e
  split at e
  · exact fin _ rfl e (.one step_end)
  · rename_i cd t
    split at e
    · exact (e m E a w b cs hr hf hk).head (.one step_skip)
    · exact (e m E a w b cs hr hf hk).head (.one step_label)
    · exact (e m E a w b cs hr hf hk).head (.one step_seq)
    · rename_i id ops draw
      let l : List AV → AHeap → Option Res := fun fr h => if Sem P w0 n fn Q t fr h then some tok else none
      have hl : ∀ fr h, Sem P w0 n fn Q t fr h → l fr h = some tok := fun fr h s => by simp only [l, if_pos s]
      have e2 : (bif draw then drawK P F.loc (optM (c1 c)) ops (maskF (F.mask id) fr) l h else opsK P F.loc (optM (c1 c)) ops (List.range ops.size) (maskF (F.mask id) fr) l h) = some tok := by
        cases draw with
        | true => exact drawK_rel semM_opt hl e
        | false => exact opsK_rel semM_opt hl _ _ _ e
      have hwp := region_sound (F := F) (id := id) (ops := ops) (draw := draw) (k := l) (r := tok) (Q := fun ex a' w' => ex = .normal ∧ ∃ fr2 h2, Step P w0 m E w fr2 h2 a' w' ∧ Sem P w0 n fn Q t fr2 h2) hmix (c1_ok hc) hr
        (fun fr2 h2 a2 w2 s ek => by
          by_cases hs : Sem P w0 n fn Q t fr2 h2
          · exact ⟨rfl, fr2, h2, s, hs⟩
          · simp only [l, if_neg hs] at ek; simp at ek) e2
      obtain ⟨ex, a', w', ⟨rfl, fr2, h2, ⟨m', s1, s2, s3⟩, ek⟩, harr⟩ := hwp b t cs
      obtain ⟨rs, h', w2, fr3, v, m2, k0, k1, k2, k3, k4, k5, k6, k7⟩ := ek m' E a' w' b cs s2 hf hk
      exact ⟨rs, h', w2, fr3, v, m2, k0, Steps.trans harr k1, k2, k3, fun i hi x hx => k4 i hi x (s1 i x hx), k5, s3.trans k6, k7⟩
    · rename_i cnd x y
      split at e
      · rename_i bb hcv
        have hv := hr.eval hcv
        generalize hev : a.eval cnd = v' at hv
        cases hv
        have key : ∀ fr1, fr1 = fr → (bif bb then Sem P w0 n fn Q (.code x :: t) fr1 h else Sem P w0 n fn Q (.code y :: t) fr1 h) → EndsN P w0 n m E w b cs (lone (b.at a (.code (.cond cnd x y) :: t)) cs w) Q := by
          intro fr1 h1 e1
          subst h1
          cases bb with
          | true => exact (e1 m E a w b cs hr hf hk).head (.one (step_cond hev))
          | false => exact (e1 m E a w b cs hr hf hk).head (.one (step_cond hev))
        split at e
        · rename_i s
          have hset := set_same (getF_some (fr := fr) (x := .v (.bool bb)) hcv (by simp))
          refine key _ hset ?_
          cases bb with
          | true => exact e
          | false => exact e
        · exact key fr rfl e
      · exact e.elim
    · exact (e m E a w b cs hr hf hk).head (.one step_block)
    · exact (e m E a w b cs hr hf hk).head (.one step_loop)
    · split at e
      · rename_i t' hx
        exact (e m E a w b cs hr hf hk).head (.one (step_exit hx))
      · exact e.elim
    · exact fin _ rfl e (.one step_ret)
    · exact e.elim
  · exact (e m E a w b cs hr hf hk).head (.one step_inBlock)
  · exact (e m E a w b cs hr hf hk).head (.one step_inLoop)
  · exact e.elim

theorem Sem.mask {n : Nat} {fn : Func} {Q : Post} {t : List Item} (mk : List Bool) (s : Sem P w0 n fn Q t (maskF mk fr) h) : Sem P w0 n fn Q t fr h :=
  fun m E a w b cs hr hf hk => s m E a w b cs (hr.mask mk) hf hk

/-- A stretch of code up to the regions of a list, each with what is to hold there. -/
theorem seg_sem (hmix : P.follows .mixedOrders = true) {c : CallsP} (hc : CallsOk P w0 c) {n : Nat} {fn : Func} {Q : Post} {leaf : List Item → List AV → AHeap → Prop} (hl : ∀ t fr h, leaf t fr h → Sem P w0 n fn Q t fr h) (cuts : List Nat) :
    ∀ (k : Nat) {t : List Item} {fr : List AV} {h : AHeap}, segK P F (semM c Q) fn cuts k t fr leaf h → Sem P w0 n fn Q t fr h := by
  intro k
  induction k with
  | zero => exact fun e => hl _ _ _ e
  | succ k ih =>
    intro t fr h e
    simp only [segK] at e
    refine goStep_sem (F := F) hmix hc (goStep_rel (R := fun x y : Prop => x → y) (M := semM c Q) (N := semM c Q) ⟨⟨id, fun g xs h k l hk => ?_⟩, fun _ _ => id⟩ ?_ e)
    · simp only [semM]
      split
      · exact fun e => ⟨e.1, hk _ _ e.2⟩
      · exact id
    · intro t fr h
      split
      · rename_i id ops d t
        intro e
        cases hcu : cuts.contains id with
        | true => rw [hcu] at e; exact (hl _ _ _ e).mask _
        | false => rw [hcu] at e; exact ih e
      · exact ih

/-! Calls. -/

/-- A call comes to an answer of which Q holds, in whatever world stands beside this heap. -/
def CallS (P : Program) (w0 : World) (f : FuncId) (args : List Value) (h : AHeap) (Q : Post) : Prop :=
  ∀ m E w args', HRel P w0 m E h w → VL m (szB w) args args' → enters P f = true →
    Calls P f args'.toArray w fun e w' => ∃ rs h' v m', Q rs h' ∧ e = .returned v ∧ MLe m m' ∧ HRel P w0 m' E h' w' ∧ Keep E w w' ∧ ResV m' (szB w') rs v

/-- A function, by its body. -/
theorem call_sem {f : FuncId} {fn : Func} {cd : Code} {args : List Value} {Q : Post} (hfn : P.funcs[f]? = some fn) (hcd : fn.body = some cd)
    (s : Sem P w0 h.next fn Q [.code cd] (startF fn args) h) : CallS P w0 f args h Q := by
  intro m E w args' hr hv he cs
  let b : Frame := { (default : Frame) with fn := f, kind := .normal }
  have henter : Frame.enter P f args'.toArray .normal = b.at { tmps := args'.toArray ++ Array.replicate (fn.ntmps - args'.toArray.size) undef, defers := [] } [.code cd] := by
    simp [Frame.enter, Frame.at, hfn, hcd, b]
  obtain ⟨rs, h', w', fr', v, m', k0, k1, k2, k3, k4, k5, k6, k7⟩ := s m E _ w b cs (start_rel hr hv fn) hfn rfl
  rw [← henter] at k1
  exact ⟨.returned v, w', fr', ⟨rs, h', v, m', k0, rfl, fun i x hx => k4 i (hr.lt i _ _ hx).2 x hx, k5, k6, k7⟩, k1, k2, k3⟩

theorem CallS.mono {f : FuncId} {args : List Value} {Q Q' : Post} (hq : ∀ rs h, Q rs h → Q' rs h) (s : CallS P w0 f args h Q) : CallS P w0 f args h Q' :=
  fun m E w args' hr hv he => (s m E w args' hr hv he).mono fun _ _ ⟨rs, h', v, m', k0, k1⟩ => ⟨rs, h', v, m', hq _ _ k0, k1⟩

/-- What the machine itself computes. -/
theorem call_run (hmix : P.follows .mixedOrders = true) {T : Tbl} (hp : PrimOk P w0 T) {f : FuncId} {args : List Value} {r : Res} (e : run P T f args h = some r) : CallS P w0 f args h fun rs h' => rs = r.1 ∧ h' = r.2 :=
  fun m E w args' hr hv he => (run_sound hmix hp f args h r.1 r.2 e m E w args' hr hv he).mono fun _ _ ⟨v, m', k⟩ => ⟨r.1, r.2, v, m', ⟨rfl, rfl⟩, k⟩

end Go.Agm
