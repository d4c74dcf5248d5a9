/- An abstract machine for one goroutine: callees whose answers hang on conditions. No condition. -/
import Derived.Test.YtdggbficiakbhaaA22
namespace Go.Agm
variable {P : Program}

/-- What functions answer that leave the heap, and when. -/
abbrev Ask := FuncId → List Value → Option (Bool × List Value)
def AskOk (c : Ask) (d : Calls1) : Prop := ∀ f xs rs h, c f xs = some (true, rs) → d f xs h = some (rs, h)

def condCall (c : Ask) (g : FuncId) (xs : List Value) (h : AHeap) (k : List Value → AHeap → Bool) : Bool := match c g xs with
  | some p => bif p.1 then k p.2 h else false
  | none => false
def condM (c : Ask) : Mach Bool := { fail := false, ret := fun rs _ => lawRet rs, call := condCall c }

def goM {A : Type} (P : Program) (F : FT) (M : Mach A) (fn : Func) : Nat → List Item → List AV → AHeap → A
  | 0, _, _, _ => M.fail
  | n + 1, todo, fr, h => goStep P F M fn todo fr (fun t fr h => goM P F M fn n t fr h) h

theorem condM_opt {c : Ask} {d : Calls1} (hc : AskOk c d) : MRel (fun (x : Bool) (y : Option Res) => x = true → ∃ h, y = some ([.bool true], h)) (condM c) (optM d) where
  fail := by simp [condM]
  ret := by
    intro rs h e
    simp only [condM, lawRet] at e
    split at e
    · subst e; exact ⟨h, rfl⟩
    · simp at e
  call := by
    intro g xs h k l hk e
    simp only [condM, condCall, optM] at e ⊢
    split at e
    · rename_i p hp
      cases hb : p.1 with
      | false => rw [hb] at e; simp at e
      | true =>
        rw [hb, cond_true] at e
        rw [hc g xs p.2 h (by rw [hp, ← hb]), Option.bind_some]
        exact hk _ _ e
    · simp at e

theorem goM_goK {F : FT} {c : Ask} {d : Calls1} (hc : AskOk c d) {fn : Func} : ∀ (n : Nat) {todo : List Item} {fr : List AV} {h : AHeap}, goM P F (condM c) fn n todo fr h = true → ∃ h', goK P F d fn n todo fr h = some ([.bool true], h') := by
  intro n
  induction n with
  | zero => intro todo fr h e; simp [goM, condM] at e
  | succ n ih =>
    intro todo fr h e
    simp only [goM, goK] at e ⊢
    exact goStep_rel (condM_opt hc) (fun _ _ _ => ih) e

/-- A law's answer, whose callees' answers hang on conditions. -/
theorem law_cond {T : Tbl} {c : Ask} (hc : AskOk c (run P T)) (n : Nat) {f : FuncId} {fn : Func} {cd : Code} {args : List Value} {h : AHeap} (hp : T.prim f = none) (hf : P.funcs[f]? = some fn) (hb : fn.body = some cd)
    (e : goM P (T.ft f) (condM c) fn n [.code cd] (startF fn args) h = true) : ∃ h', run P T f args h = some ([.bool true], h') :=
  let ⟨h', e⟩ := goM_goK hc n e
  ⟨h', run_go hp hf hb (go_goK n e)⟩

end Go.Agm
