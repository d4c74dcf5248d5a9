/- An abstract machine for one goroutine: what an operation gives refers to no slot that is not written yet. No condition. -/
import Derived.Test.YtkjdfkodclednaaDoorA19b
namespace Go.Agm
universe u v
variable {P : Program} {fr fr2 : List AV} {h h1 h2 : AHeap} {c : Calls1} {loc : Nat → Bool}

theorem noRefs_iff {t : Nat} : ∀ {fr : List AV}, noRefs t fr = true ↔ ∀ s off, AV.ref s off ∈ fr → s ≠ t
  | [] => by simp [noRefs]
  | x :: r => by
    have ih := noRefs_iff (t := t) (fr := r)
    cases x with
    | ref s off =>
      simp only [noRefs, Bool.and_eq_true, ih, List.mem_cons]
      constructor
      · rintro ⟨h1, h2⟩ s' off' (hh | hh)
        · injection hh with h3 h4; subst h3; intro e; subst e; simp at h1
        · exact h2 s' off' hh
      · intro hh
        refine ⟨by have := hh s off (.inl rfl); simpa using this, fun s' off' hm => hh s' off' (.inr hm)⟩
    | v x => simp [noRefs, ih]
    | blk cs => simp [noRefs, ih]
    | tup xs => simp [noRefs, ih]
    | dead => simp [noRefs, ih]

/-- Out of this comes no place within slot d. -/
def NoRef (d : Nat) (a : Option (AV × AHeap)) : Prop := ∀ x h', a = some (x, h') → ∀ off, x ≠ .ref d off

theorem nr_none {d : Nat} : NoRef d none := fun _ _ e => by simp at e
theorem nr_fail {d : Nat} : NoRef d (pairM c).fail := nr_none
theorem nr_some {d : Nat} {x : AV} (hx : ∀ off, x ≠ .ref d off) : NoRef d (some (x, h)) := fun y h' e off => by
  injection e with e; injection e with e1 e2; subst e1; exact hx off
theorem nr_v {d : Nat} {x : Value} : NoRef d (some (.v x, h)) := nr_some (fun _ => by simp)
theorem nr_tup {d : Nat} {x : List Value} : NoRef d (some (.tup x, h)) := nr_some (fun _ => by simp)
theorem nr_blk {d : Nat} {x : List Value} : NoRef d (some (.blk x, h)) := nr_some (fun _ => by simp)
theorem nr_lk {d : Nat} {ok b : Bool} {x : Value} : NoRef d (some (lkA ok x b, h)) := by cases ok <;> exact nr_some (fun _ => by simp [lkA])
theorem nr_on {d : Nat} {α : Type} {x : Option α} {f : α → Option (AV × AHeap)} (hf : ∀ a, x = some a → NoRef d (f a)) : NoRef d ((pairM c).on x f) := by
  cases x with
  | none => exact nr_none
  | some a => exact hf a rfl
theorem nr_cond {d : Nat} {b : Bool} {x y : Option (AV × AHeap)} (hx : NoRef d x) (hy : NoRef d y) : NoRef d (bif b then x else y) := by cases b <;> assumption

theorem opA_ref {x : Operand} {s off : Nat} (e : opA P fr x = .ref s off) : ∃ t, getF fr t = .ref s off := by
  cases x with
  | tmp t => exact ⟨t, e⟩
  | const c => simp only [opA] at e; cases hp : plainD 4 c <;> simp [hp] at e
  | global g => simp only [opA] at e; cases hp : Nat.blt g P.globals.size <;> simp [hp] at e
  | func f => simp [opA] at e

theorem locA_ref {x : Operand} {s off : Nat} (e : locA P fr x = some (.loc s off)) : ∃ cs, getF fr s = .blk cs := locA_blk e

theorem add_noRef {d : Nat} {x : Operand} {l : Loc} {n : Nat} (hb : ∀ cs, getF fr d ≠ .blk cs) (e : locA P fr x = some l) : NoRef d (some (l.addA n, h)) := by
  refine nr_some fun off => ?_
  cases l with
  | main b o => simp [Loc.addA]
  | loc s o =>
    simp only [Loc.addA]
    intro e2
    injection e2 with e3 e4
    subst e3
    obtain ⟨cs, hcs⟩ := locA_ref e
    exact hb cs hcs

theorem ev_noRef {o : Oper} {d : Nat} (hn : noRefs d fr = true) (hb : ∀ cs, getF fr d ≠ .blk cs) : NoRef d (ev P loc c o fr h) := by
  have href : ∀ {x : Operand} {s off : Nat}, opA P fr x = .ref s off → s ≠ d := by
    intro x s off e
    obtain ⟨t, ht⟩ := opA_ref e
    exact noRefs_get hn (getF_some ht (by simp))
  have hblk : ∀ {t : Nat} {cs : List Value}, opA P fr (.tmp t) = .blk cs → t ≠ d := by
    intro t cs e he
    subst he
    exact hb cs e
  obtain ⟨dst, op, ty, pos, after, guard⟩ := o
  unfold ev
  cases op <;> simp only [opK]
  case store t a x =>
    cases dst with
    | some _ => exact nr_none
    | none =>
      intro y h' e off hh
      rw [Option.map_eq_some_iff] at e
      obtain ⟨z, _, e⟩ := e
      injection e with e1 e2
      rw [← e1] at hh
      simp at hh
  case fieldAddr s x f => exact nr_on fun l hl => nr_on fun p _ => add_noRef hb hl
  case indexAddr t x i =>
    refine nr_on fun j _ => nr_cond (nr_on fun l hl => nr_on fun n _ => add_noRef hb hl) (nr_on fun a _ => nr_on fun y _ => nr_v)
  case call cl =>
    obtain ⟨callee, args, argTypes⟩ := cl
    have hcall : ∀ g xs, NoRef d ((pairM c).call g xs h fun rs h => some (outA rs, h)) := by
      intro g xs
      simp only [pairM]
      cases c g xs h with
      | none => exact nr_none
      | some p =>
        simp only [Option.bind_some, outA]
        split
        · exact nr_v
        · exact nr_tup
    cases callee <;> simp only
    all_goals
      repeat' (first | exact nr_fail | exact nr_v | exact nr_tup | exact nr_blk | exact hcall _ _ | (refine nr_on fun _ _ => ?_) | (refine nr_cond ?_ ?_) | split)
  all_goals
    repeat' (first | exact nr_fail | exact nr_v | exact nr_tup | exact nr_lk | exact nr_blk | (refine nr_on fun _ _ => ?_) | (refine nr_cond ?_ ?_) | split)
  all_goals
    first
    | (rename_i h1 _ _; refine nr_some fun off => ?_; intro e; injection e with e1 e2; subst e1; exact hblk h1 rfl)
    | (rename_i h1; refine nr_some fun off => ?_; intro e; injection e with e1 e2; subst e1; exact hblk h1 rfl)
    | (rename_i h1; refine nr_some fun off => ?_; intro e; injection e with e1 e2; subst e1; exact href h1 rfl)
    | (rename_i h1 _ _ _; refine nr_some fun off => ?_; intro e; injection e with e1 e2; subst e1; exact href h1 rfl)
    | skip

def NoBk (a : Option (AV × AHeap)) : Prop := ∀ x h', a = some (x, h') → ∀ cs, x ≠ .blk cs
theorem nb_none : NoBk none := fun _ _ e => by simp at e
theorem nb_fail : NoBk (pairM c).fail := nb_none
theorem nb_some {x : AV} (hx : ∀ cs, x ≠ .blk cs) : NoBk (some (x, h)) := fun y h' e cs => by
  injection e with e; injection e with e1 e2; subst e1; exact hx cs
theorem nb_v {x : Value} : NoBk (some (.v x, h)) := nb_some (fun _ => by simp)
theorem nb_tup {x : List Value} : NoBk (some (.tup x, h)) := nb_some (fun _ => by simp)
theorem nb_lk {ok b : Bool} {x : Value} : NoBk (some (lkA ok x b, h)) := by cases ok <;> exact nb_some (fun _ => by simp [lkA])
theorem nb_ref {s o : Nat} : NoBk (some (.ref s o, h)) := nb_some (fun _ => by simp)
theorem nb_add {l : Loc} {n : Nat} : NoBk (some (l.addA n, h)) := nb_some (fun _ => by cases l <;> simp [Loc.addA])
theorem nb_on {α : Type} {x : Option α} {f : α → Option (AV × AHeap)} (hf : ∀ a, x = some a → NoBk (f a)) : NoBk ((pairM c).on x f) := by
  cases x with
  | none => exact nb_none
  | some a => exact hf a rfl
theorem nb_cond {b : Bool} {x y : Option (AV × AHeap)} (hx : NoBk x) (hy : NoBk y) : NoBk (bif b then x else y) := by cases b <;> assumption
theorem ev_noBk {o : Oper} (hl : nlA loc o = true) : NoBk (ev P loc c o fr h) := by
  obtain ⟨dst, op, ty, pos, after, guard⟩ := o
  unfold ev
  cases op <;> simp only [opK]
  case store t a x =>
    cases dst with
    | some _ => exact nb_none
    | none =>
      intro y h' e cs hh
      rw [Option.map_eq_some_iff] at e
      obtain ⟨z, _, e⟩ := e
      injection e with e1 e2
      rw [← e1] at hh
      simp at hh
  case alloc e =>
    cases dst with
    | none => cases zeroT P e <;> exact nb_none
    | some d =>
      simp only [nlA, Bool.not_eq_true'] at hl
      cases zeroT P e with
      | none => exact nb_none
      | some cs => simp only [hl, cond_false]; exact nb_v
  case box e x =>
    cases dst with
    | none => cases valA P fr x <;> exact nb_none
    | some d =>
      simp only [nlA, Bool.not_eq_true'] at hl
      cases valA P fr x with
      | none => exact nb_none
      | some cs => simp only [hl, cond_false]; exact nb_v
  case call cl =>
    obtain ⟨callee, args, argTypes⟩ := cl
    have hcall : ∀ g xs, NoBk ((pairM c).call g xs h fun rs h => some (outA rs, h)) := by
      intro g xs
      simp only [pairM]
      cases c g xs h with
      | none => exact nb_none
      | some p =>
        simp only [Option.bind_some, outA]
        split
        · exact nb_v
        · exact nb_tup
    cases callee <;> simp only
    all_goals
      repeat' (first | exact nb_fail | exact nb_v | exact nb_tup | exact hcall _ _ | (refine nb_on fun _ _ => ?_) | (refine nb_cond ?_ ?_) | split)
  all_goals
    repeat' (first | exact nb_fail | exact nb_v | exact nb_tup | exact nb_lk | exact nb_ref | exact nb_add | (refine nb_on fun _ _ => ?_) | (refine nb_cond ?_ ?_) | split)

theorem noB_put {d : Option Nat} {x : AV} (hn : noB fr) (hx : ∀ cs, x ≠ .blk cs) : noB (putF fr d x) := by
  intro t cs
  cases d with
  | none => exact hn t cs
  | some d =>
    simp only [putF, getF, List.getD_eq_getElem?_getD, set_get]
    by_cases hd : t = d ∧ d < fr.length
    · rw [if_pos hd]; exact hx cs
    · rw [if_neg hd]; have := hn t cs; simpa [getF, List.getD_eq_getElem?_getD] using this

end Go.Agm
