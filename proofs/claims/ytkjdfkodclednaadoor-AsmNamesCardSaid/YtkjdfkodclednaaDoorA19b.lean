/- An abstract machine for one goroutine: what an operation leaves alone. No condition. -/
import Derived.Test.YtkjdfkodclednaaDoorA19
namespace Go.Agm
universe u v
variable {P : Program} {fr fr2 : List AV} {h h1 h2 : AHeap} {c : Calls1} {loc : Nat → Bool} {A : Sort u} {B : Sort v} {R : A → B → Prop} {M : Mach A} {N : Mach B}

theorem on_rel0 (hf : R M.fail N.fail) {α : Type} {x : Option α} {f : α → A} {g : α → B} (h : ∀ a, R (f a) (g a)) : R (M.on x f) (N.on x g) := by
  cases x with
  | none => exact hf
  | some a => exact h a

theorem cls0_rel {o : Oper} {k : AV → AHeap → A} {l : AV → AHeap → B} (hc : clsA P loc o = 0) (hf : R M.fail N.fail) (hk : ∀ x, R (k x h1) (l x h2)) : R (opK P loc M o fr k h1) (opK P loc N o fr l h2) := by
  obtain ⟨dst, op, ty, pos, after, guard⟩ := o
  cases op
  case alloc e =>
    simp only [clsA] at hc
    simp only [opK]
    cases dst with
    | none => simp at hc
    | some d =>
      cases hl : loc d with
      | false => simp [hl] at hc
      | true => cases zeroT P e <;> first | exact hf | (simp only [hl, cond_true]; exact cond_rel (hk _) hf)
  case box e x =>
    simp only [clsA] at hc
    simp only [opK]
    cases dst with
    | none => simp at hc
    | some d =>
      cases hl : loc d with
      | false => simp [hl] at hc
      | true => cases valA P fr x <;> first | exact hf | (simp only [hl, cond_true]; exact cond_rel (hk _) hf)
  case slice t x lo hi mx =>
    simp only [clsA] at hc
    simp only [opK]
    cases ha : isArr P t with
    | true => rw [ha] at hc; simp at hc
    | false =>
      simp only [cond_false]
      repeat' (first | exact hf | exact hk _ | (refine on_rel0 hf fun _ => ?_) | split)
  case buildSlice t len parts =>
    simp only [clsA] at hc
    simp only [opK]
    cases len with
    | zero =>
      simp only
      repeat' (first | exact hf | exact hk _ | (refine cond_rel ?_ ?_) | split)
      all_goals (exfalso; rename_i hh; simp at hh)
    | succ n => simp at hc
  case call cl =>
    obtain ⟨callee, args, argTypes⟩ := cl
    simp only [clsA] at hc
    simp only [opK]
    cases callee with
    | value f => simp at hc
    | invoke r n => simp at hc
    | builtin b =>
      cases b <;> simp at hc
      all_goals
        simp only
        split <;> first | exact hf | contradiction | (repeat' (first | exact hf | exact hk _ | (refine on_rel0 hf fun _ => ?_)))
  case convert s d x =>
    simp only [clsA] at hc
    simp only [opK]
    refine on_rel0 hf fun a => ?_
    have e : ∀ h, convH P s d a h = convA P s d a := by
      intro h
      unfold convH
      split
      · rename_i e hs hd; simp [hs] at hc
      · rename_i t hs hd; simp [hs, hd] at hc
      · rename_i u hs hd; simp [hs, hd] at hc
      · rfl
    rw [e, e]
    exact on_rel0 hf fun _ => hk _
  all_goals
    first
    | (simp [clsA] at hc; done)
    | (simp only [opK]; repeat' (first | exact hf | exact hk _ | (refine on_rel0 hf fun _ => ?_) | (refine cond_rel ?_ ?_) | split))

/-- What looks at values alone leaves the heap, whatever it is. -/
theorem ev0 {o : Oper} (hc : clsA P loc o = 0) {x : AV} {h' : AHeap} (e : ev P loc c o fr h = some (x, h')) : h' = h ∧ ∀ h2, ev P loc c o fr h2 = some (x, h2) := by
  have hs : isStore o = false := by
    cases hs : isStore o with
    | false => rfl
    | true =>
      unfold isStore at hs
      split at hs
      · rename_i ho; simp [clsA, ho] at hc
      · simp at hs
  have key : ∀ h2, ev P loc c o fr h2 = (ev P loc c o fr h).map fun p => (p.1, h2) := by
    intro h2
    rw [ev_eq hs, ev_eq hs]
    exact cls0_rel (R := fun (y z : Option (AV × AHeap)) => z = y.map fun p => (p.1, h2)) (M := pairM c) (N := pairM c) (h1 := h) (h2 := h2) hc rfl (fun _ => rfl)
  have h1 := key h
  rw [e] at h1
  simp only [Option.map_some, Option.some.injEq, Prod.mk.injEq, true_and] at h1
  refine ⟨h1, fun h2 => ?_⟩
  rw [key h2, e]; rfl

theorem onP {α : Type} {x : Option α} {f : α → Option (AV × AHeap)} {p : AV × AHeap} : (pairM c).on x f = some p ↔ ∃ y, x = some y ∧ f y = some p := by
  cases x <;> simp [Mach.on, pairM]

/-- What reads puts what it reads, and leaves the heap. -/
theorem ev1 {o : Oper} (hc : clsA P loc o = 1) {x : AV} {h' : AHeap} (e : ev P loc c o fr h = some (x, h')) : h' = h ∧ ∃ v, x = .v v ∧ rereadA P o fr h = some v ∧ ∀ h2, (rereadA P o fr h2 = some v ∨ localA P o fr = true) → ev P loc c o fr h2 = some (.v v, h2) := by
  obtain ⟨dst, op, ty, pos, after, guard⟩ := o
  cases op
  case load t a =>
    simp only [ev, opK, onP] at e
    obtain ⟨l, hl, cs, hcs, v, hv, e⟩ := e
    simp only [Option.some.injEq, Prod.mk.injEq] at e
    obtain ⟨rfl, rfl⟩ := e
    refine ⟨rfl, v, rfl, by simp [rereadA, hl, hcs, hv], ?_⟩
    intro h2 hh
    rcases hh with hh | hh
    · simp only [rereadA, Option.bind_eq_some_iff] at hh
      obtain ⟨l', hl', cs', hcs', hv'⟩ := hh
      simp only [ev, opK, onP]
      exact ⟨l', hl', cs', hcs', v, hv', rfl⟩
    · simp only [localA, hl] at hh
      simp only [ev, opK, onP]
      cases l with
      | main b off => simp at hh
      | loc s off => exact ⟨_, hl, cs, hcs, v, hv, rfl⟩
  case alloc e =>
    simp only [clsA] at hc
    cases dst with
    | none => simp at hc
    | some d => cases hl : loc d <;> simp [hl] at hc
  case box e x =>
    simp only [clsA] at hc
    cases dst with
    | none => simp at hc
    | some d => cases hl : loc d <;> simp [hl] at hc
  case slice t x lo hi mx =>
    simp only [clsA] at hc
    cases ha : isArr P t <;> simp [ha] at hc
  case buildSlice t len parts =>
    simp only [clsA] at hc
    cases len <;> simp at hc
  case convert s d x =>
    simp only [clsA] at hc
    split at hc <;> simp at hc
  case call cl =>
    obtain ⟨callee, args, argTypes⟩ := cl
    simp only [clsA] at hc
    cases callee with
    | value f => simp at hc
    | invoke r n => simp at hc
    | builtin b =>
      cases b <;> simp at hc
      simp only [ev, opK] at e
      split at e
      case h_1 =>
        rename_i x t _ hx ht
        cases ha : isArr P t with
        | true =>
          simp only [ha, cond_true, onP] at e
          obtain ⟨v, hv, e⟩ := e
          simp only [Option.some.injEq, Prod.mk.injEq] at e
          obtain ⟨rfl, rfl⟩ := e
          refine ⟨rfl, v, rfl, by simp [rereadA, hx, ht, ha, hv], ?_⟩
          intro h2 hh
          simp only [ev, opK, hx, ht, ha, cond_true, onP]
          exact ⟨v, hv, rfl⟩
        | false =>
          simp only [ha, cond_false, onP] at e
          obtain ⟨y, hy, v, hv, e⟩ := e
          simp only [Option.some.injEq, Prod.mk.injEq] at e
          obtain ⟨rfl, rfl⟩ := e
          refine ⟨rfl, v, rfl, by simp [rereadA, hx, ht, ha, hy, hv], ?_⟩
          intro h2 hh
          rcases hh with hh | hh
          · simp only [rereadA, hx, ht, ha, cond_false, Option.bind_eq_some_iff] at hh
            obtain ⟨y', hy', hv'⟩ := hh
            simp only [ev, opK, hx, ht, ha, cond_false, onP]
            exact ⟨y', hy', v, hv', rfl⟩
          · simp [localA] at hh
      all_goals first | (simp [pairM] at e; done) | contradiction
  all_goals (simp [clsA] at hc)

theorem veq_eq : ∀ (n : Nat) {x y : Value}, veq n x y = true → x = y := by
  intro n
  induction n with
  | zero =>
    intro x y e
    cases x <;> cases y <;> simp [veq] at e <;> first | (simp [e]; done) | skip
    rename_i a b
    have : a = b := by
      cases a; cases b; simp at e; rw [e]
    rw [this]
  | succ n ih =>
    have hgo : ∀ (xs ys : List Value), veq.go n xs ys = true → xs = ys := by
      intro xs
      induction xs with
      | nil => intro ys e; cases ys <;> simp [veq.go] at e ⊢
      | cons x xs ihx =>
        intro ys e
        cases ys with
        | nil => simp [veq.go] at e
        | cons y ys =>
          simp only [veq.go, Bool.and_eq_true] at e
          rw [ih e.1, ihx ys e.2]
    intro x y e
    cases x <;> cases y <;> simp [veq] at e <;> first | (simp [e]; done) | skip
    · rename_i a b
      have : a = b := by
        cases a; cases b; simp at e; rw [e]
      rw [this]
    · rename_i t x u y
      rw [e.1, ih e.2]
    · rename_i a b
      have := hgo _ _ e
      rw [Array.toList_inj] at this
      rw [this]

end Go.Agm
