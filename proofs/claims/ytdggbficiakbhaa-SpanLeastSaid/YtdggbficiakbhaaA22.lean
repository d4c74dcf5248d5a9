/- An abstract machine for one goroutine: callees by what they answer; a law by its answer alone. No condition. -/
import Derived.Test.YtdggbficiakbhaaA21
import Derived.KernelRfl
namespace Go.Agm
variable {P : Program}

theorem go_goK {T : Tbl} {f : FuncId} {fn : Func} : ∀ (n : Nat) {todo : List Item} {fr : List AV} {h : AHeap} {r : Res}, goK P (T.ft f) (run P T) fn n todo fr h = some r → go P T f fn todo fr h = some r := by
  intro n
  induction n with
  | zero => intro todo fr h r e; simp [goK] at e
  | succ n ih =>
    intro todo fr h r e
    simp only [goK] at e
    exact go_step (goStep_rel (R := fun x y => x = some r → y = some r) (optM_le (fun _ _ _ _ => id) r) (fun _ _ _ => ih) e)

/-- A function, whose callees' answers are known. -/
theorem run_spec {T : Tbl} {spec : Calls1} (hs : CLe spec (run P T)) (n : Nat) {f : FuncId} {fn : Func} {c : Code} {args : List Value} {h : AHeap} {r : Res} (hp : T.prim f = none) (hf : P.funcs[f]? = some fn) (hb : fn.body = some c)
    (e : goK P (T.ft f) spec fn n [.code c] (startF fn args) h = some r) : run P T f args h = some r :=
  run_go hp hf hb (go_goK n (goK_mono hs n n _ _ _ _ (Nat.le_refl _) e))

/-- A law's answer alone. -/
def lawRet (rs : List Value) : Bool := match rs with
  | [.bool b] => b
  | _ => false
def lawCall (c : Calls1) (g : FuncId) (xs : List Value) (h : AHeap) (k : List Value → AHeap → Bool) : Bool := match c g xs h with
  | some p => k p.1 p.2
  | none => false
def lawM (c : Calls1) : Mach Bool := { fail := false, ret := fun rs _ => lawRet rs, call := lawCall c }

def goB (P : Program) (F : FT) (c : Calls1) (fn : Func) : Nat → List Item → List AV → AHeap → Bool
  | 0, _, _, _ => false
  | n + 1, todo, fr, h => goStep P F (lawM c) fn todo fr (fun t fr h => goB P F c fn n t fr h) h

theorem lawM_opt (c : Calls1) : MRel (fun (x : Bool) (y : Option Res) => x = true → ∃ h, y = some ([.bool true], h)) (lawM c) (optM c) where
  fail := by simp [lawM]
  ret := by
    intro rs h e
    simp only [lawM, lawRet] at e
    split at e
    · subst e; exact ⟨h, rfl⟩
    · simp at e
  call := by
    intro g xs h k l hk e
    simp only [lawM, lawCall, optM] at e ⊢
    split at e
    · rename_i p hp
      rw [hp, Option.bind_some]
      exact hk _ _ e
    · simp at e

theorem goB_goK {F : FT} {c : Calls1} {fn : Func} : ∀ (n : Nat) {todo : List Item} {fr : List AV} {h : AHeap}, goB P F c fn n todo fr h = true → ∃ h', goK P F c fn n todo fr h = some ([.bool true], h') := by
  intro n
  induction n with
  | zero => intro todo fr h e; simp [goB] at e
  | succ n ih =>
    intro todo fr h e
    simp only [goB, goK] at e ⊢
    exact goStep_rel (lawM_opt c) (fun _ _ _ => ih) e

theorem law_spec {T : Tbl} {spec : Calls1} (hs : CLe spec (run P T)) (n : Nat) {f : FuncId} {fn : Func} {c : Code} {args : List Value} {h : AHeap} (hp : T.prim f = none) (hf : P.funcs[f]? = some fn) (hb : fn.body = some c)
    (e : goB P (T.ft f) spec fn n [.code c] (startF fn args) h = true) : ∃ h', run P T f args h = some ([.bool true], h') :=
  let ⟨h', e'⟩ := goB_goK n e
  ⟨h', run_spec hs n hp hf hb e'⟩

end Go.Agm
