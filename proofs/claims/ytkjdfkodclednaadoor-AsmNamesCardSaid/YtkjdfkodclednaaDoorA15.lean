/- An abstract machine for one goroutine: each operation stands for the model's. No condition. -/
import Derived.Test.YtkjdfkodclednaaDoorA14
namespace Go.Agm

variable {P : Program} {w0 : World} {m : MapN} {E : Nat → Prop} {fr : List AV} {h : AHeap} {a : Act} {w : World} {o : Oper} {next : Act → World → Prop} {Q : Exit → Act → World → Prop} {k : AV → AHeap → Option Res} {r : Res} {c : Calls1}

/-- What a call hands back. -/
def ResV (m : MapN) (S : Nat → Nat) (rs : List Value) (v : Value) : Prop := match rs with
  | [x] => V m S x v
  | xs => ∃ vs : Array Value, v = .tuple vs ∧ VL m S xs vs.toList

/-- That an abstract call stands for the model's, whatever is not to turn. -/
def CallOk (P : Program) (w0 : World) (c : Calls1) : Prop :=
  ∀ f args h rs h', c f args h = some (rs, h') → ∀ m E w args', HRel P w0 m E h w → VL m (szB w) args args' → enters P f = true →
    Calls P f args'.toArray w fun e w' => ∃ v m', e = .returned v ∧ MLe m m' ∧ HRel P w0 m' E h' w' ∧ Keep E w w' ∧ ResV m' (szB w') rs v

theorem callFunc_run {f : FuncId} {args : Array Value} (he : enters P f = true) : (callFunc f args).run P w = .ok (.enter f args) w := by
  unfold enters at he
  split at he
  · rename_i fn hfn
    simp only [Bool.and_eq_true, Bool.not_eq_true', beq_eq_false_iff_ne] at he
    have hb : fn.body.isNone = false := by
      cases hb : fn.body with
      | none => rw [hb] at he; simp at he
      | some _ => rfl
    simp only [callFunc, program]
    show (match P.funcs[f]? with
      | none => stuck "call: no such function"
      | some fn => if (fn.name == "runtime.NumGoroutine") = true then pure .numGoroutine else if fn.body.isNone = true then _ else pure (.enter f args) : Sem Next).run P w = _
    rw [hfn]
    have hn : (fn.name == "runtime.NumGoroutine") = false := by simpa using he.2
    simp only [hn, hb, Bool.false_eq_true, if_false]
    rfl
  · simp at he

/-- A call's own blocks, and the caller's. -/
theorem Rel.callee (hr : Rel P w0 m E fr h a w) : HRel P w0 m (fun B => E B ∨ LB fr a B) h w := by
  have hr' := hr.hr
  refine ⟨hr'.base, fun B hB => .inl (hr'.out B hB), fun B hB => ?_, hr'.glob, hr'.lt, hr'.dom, ?_, ?_, hr'.inj, hr'.ty⟩
  · rcases hB with hB | hB
    · exact hr'.ext B hB
    · obtain ⟨C, el, fz, h1, _⟩ := hr.fr.local_some hB; exact some_lt h1
  · intro b cs rw e
    rcases hr'.cells b cs rw e with hg | ⟨B, bs, C, el, fz, h1, h2, h3, h4, h5⟩
    · exact .inl hg
    refine .inr ⟨B, bs, C, el, fz, h1, h2, h3, fun hrw => ⟨?_, (h4 hrw).2⟩, h5⟩
    rintro (hB | hB)
    · exact (h4 hrw).1 hB
    · obtain ⟨_, _, _, _, _, _, h6⟩ := hr.fr.local_some hB
      exact h6 b _ bs e h1
  · intro b es e
    obtain ⟨B, en, cl, h1, h2, h3, h4, h5⟩ := hr'.maps b es e
    refine ⟨B, en, cl, h1, h2, ?_, h4, h5⟩
    rintro (hB | hB)
    · exact h3 hB
    · obtain ⟨_, _, _, _, _, _, h6⟩ := hr.fr.local_some hB
      exact h6 b _ 0 e h1

theorem Rel.back (hr : Rel P w0 m E fr h a w) {m' : MapN} {h' : AHeap} {w' : World} (hm : MLe m m') (hh : HRel P w0 m' (fun B => E B ∨ LB fr a B) h' w') (hk : Keep (fun B => E B ∨ LB fr a B) w w') : Rel P w0 m' E fr h' a w' ∧ Keep E w w' := by
  refine ⟨⟨⟨hh.base, hr.hr.out, fun B hB => hh.ext B (.inl hB), hh.glob, hh.lt, hh.dom, ?_, ?_, hh.inj, hh.ty⟩, ?_⟩, hk.sub fun B hB => .inl hB⟩
  · intro b cs rw e
    rcases hh.cells b cs rw e with hg | ⟨B, bs, C, el, fz, h1, h2, h3, h4, h5⟩
    · exact .inl hg
    exact .inr ⟨B, bs, C, el, fz, h1, h2, h3, fun hrw => ⟨fun hB => (h4 hrw).1 (.inl hB), (h4 hrw).2⟩, h5⟩
  · intro b es e
    obtain ⟨B, en, cl, h1, h2, h3, h4, h5⟩ := hh.maps b es e
    exact ⟨B, en, cl, h1, h2, fun hB => h3 (.inl hB), h4, h5⟩
  · refine hr.fr.move hm hk.len (fun B hl => hk.block B (.inr hl)) (fun B hl b x bs e n => ?_)
    cases x with
    | cells cs rw =>
      obtain ⟨C, el, fz, h2, h3, h4, h5⟩ := hh.cellsM e n
      cases rw with
      | true => exact (h4 rfl).1 (.inr hl)
      | false =>
        obtain ⟨_, _, _, _, _, h6, _⟩ := hr.fr.local_some hl
        exact h6 (hr.hr.out B (h5 rfl))
    | map es =>
      obtain ⟨B', en, cl, h1, h2, h3, h4, h5⟩ := hh.maps b es e
      rw [n] at h1
      injection h1 with h1
      injection h1 with h1 h1'
      subst h1
      exact h3 (.inr hl)

theorem avr_out {rs : List Value} {v : Value} (hv : ResV m (szB w) rs v) : AVR m E h w fr a.tmps v (outA rs) ∧ ∀ cs, outA rs ≠ .blk cs := by
  unfold ResV at hv
  unfold outA
  split at hv
  · exact ⟨hv, by simp⟩
  · rename_i hne
    split
    · exact absurd rfl (hne _)
    · exact ⟨hv, by simp⟩

theorem call_step (hr : Rel P w0 m E fr h a w) (hc : CallOk P w0 c) (hn : Nx P w0 m E w fr o k r next) {f : FuncId} {args args' : List Value} (he : enters P f = true) (hv : VL m (szB w) args args')
    (hrun : (execOp a.eval o).run P w = .ok (.enter f args'.toArray) w) (e : (optM c).call f args h (fun rs h => k (outA rs) h) = some r) : o.wp P a w next Q := by
  simp only [optM, Option.bind_eq_some_iff] at e
  obtain ⟨p, hp, e⟩ := e
  unfold Oper.wp
  rw [hrun]
  refine (hc f args h p.1 p.2 hp m _ w args' hr.callee hv he).mono ?_
  rintro en w' ⟨v, m', rfl, h1, h2, h3, h4⟩
  obtain ⟨h5, h6⟩ := hr.back h1 h2 h3
  obtain ⟨h7, h8⟩ := avr_out (fr := fr) (E := E) (h := p.2) (a := a) h4
  exact hn _ _ _ _ ⟨m', h1, h5.put h7 h8, h6⟩ e

theorem resolve_value {cl : Call} {f : Operand} {fn : Fn} {first captured : Array Value} (hf : cl.callee = .value f) (he : a.eval f = .func fn first captured) (ty : TypeId) :
    (resolve a.eval cl ty).run P w = .ok { target := .fn fn captured, args := first ++ cl.args.map a.eval } w := by
  simp only [resolve, hf, he, Deferred.ofValue]
  rfl

end Go.Agm
