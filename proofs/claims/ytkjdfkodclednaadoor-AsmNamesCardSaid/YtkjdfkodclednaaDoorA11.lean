/- An abstract machine for one goroutine: slices beside the model's. No condition. -/
import Derived.Test.YtkjdfkodclednaaDoorA10
namespace Go.Agm

variable {P : Program} {w0 : World} {m : MapN} {E : Nat → Prop} {fr : List AV} {h : AHeap} {a : Act} {w : World} {S : Nat → Nat}

/-! Bounds. -/

theorem boundsA_run {n cap : Nat} {lo hi : Option Value} {p : Nat × Nat} (e : boundsA n lo hi = some p) (hc : n ≤ cap) (b : Bool) (w : World) :
    (Instr.sliceBounds b n cap lo hi none).run P w = .ok (p.1, p.2, cap) w ∧ p.1 ≤ p.2 ∧ p.2 ≤ n := by
  unfold boundsA at e
  split at e
  · injection e with e; subst e
    exact ⟨rfl, Nat.zero_le _, Nat.le_refl _⟩
  · rename_i k u
    cases hd : (decide (0 ≤ u) && decide (u ≤ (n : Int))) with
    | false => rw [hd] at e; simp at e
    | true =>
      rw [hd, cond_true] at e
      injection e with e; subst e
      simp only [Bool.and_eq_true, decide_eq_true_eq] at hd
      refine ⟨?_, Nat.zero_le _, by omega⟩
      simp only [Instr.sliceBounds, Instr.sliceBound, asIntOf, Sem.run_bind, Sem.run_pure, Result.andThen_ok]
      rw [if_pos (by omega)]
      rfl
  · rename_i k l
    cases hd : (decide (0 ≤ l) && decide (l ≤ (n : Int))) with
    | false => rw [hd] at e; simp at e
    | true =>
      rw [hd, cond_true] at e
      injection e with e; subst e
      simp only [Bool.and_eq_true, decide_eq_true_eq] at hd
      refine ⟨?_, by show l.toNat ≤ n; omega, Nat.le_refl _⟩
      simp only [Instr.sliceBounds, Instr.sliceBound, asIntOf, Sem.run_bind, Sem.run_pure, Result.andThen_ok]
      rw [if_pos (by omega)]
      rfl
  · rename_i k l k' u
    cases hd : (decide (0 ≤ u) && decide (u ≤ (n : Int)) && decide (0 ≤ l) && decide (l ≤ u)) with
    | false => rw [hd] at e; simp at e
    | true =>
      rw [hd, cond_true] at e
      injection e with e; subst e
      simp only [Bool.and_eq_true, decide_eq_true_eq] at hd
      refine ⟨?_, by show l.toNat ≤ u.toNat; omega, by show u.toNat ≤ n; omega⟩
      simp only [Instr.sliceBounds, Instr.sliceBound, asIntOf, Sem.run_bind, Sem.run_pure, Result.andThen_ok]
      rw [if_pos (by omega)]
      simp only [Sem.run_pure, Result.andThen_ok]
      rw [if_pos (by omega)]
      rfl
  · simp at e

/-- A bound is a number on both sides. -/
theorem bound_same {lo lo' : Option Value} {n : Nat} {hi : Option Value} {p : Nat × Nat} (e : boundsA n lo hi = some p) (hl : ∀ x, lo = some x → ∃ y, lo' = some y ∧ V m S x y) (hn : lo = none → lo' = none) : lo' = lo := by
  cases lo with
  | none => exact hn rfl
  | some x =>
    obtain ⟨y, hy, hv⟩ := hl x rfl
    unfold boundsA at e
    split at e <;> simp_all <;> cases hl <;> rfl

theorem bound_same' {hi hi' : Option Value} {n : Nat} {lo : Option Value} {p : Nat × Nat} (e : boundsA n lo hi = some p) (hl : ∀ x, hi = some x → ∃ y, hi' = some y ∧ V m S x y) (hn : hi = none → hi' = none) : hi' = hi := by
  cases hi with
  | none => exact hn rfl
  | some x =>
    obtain ⟨y, hy, hv⟩ := hl x rfl
    unfold boundsA at e
    split at e <;> simp_all <;> cases hl <;> rfl

theorem subA_run {t : TypeId} {x z x' : Value} {lo hi : Option Value} (hx : V m S x x') (e : subA P t x lo hi = some z) (w : World) {lo' hi' : Option Value}
    (hlo : ∀ u, lo = some u → ∃ y, lo' = some y ∧ V m S u y) (hlo0 : lo = none → lo' = none) (hhi : ∀ u, hi = some u → ∃ y, hi' = some y ∧ V m S u y) (hhi0 : hi = none → hi' = none) :
    ∃ z', (Instr.sliceAt t x' lo' hi' none).run P w = .ok z' w ∧ V m S z z' := by
  unfold subA at e
  split at e
  · rename_i s hu
    rw [Option.bind_eq_some_iff] at e
    obtain ⟨p, hp, e⟩ := e
    injection e with e; subst e
    rw [bound_same hp hlo hlo0, bound_same' hp hhi hhi0]
    cases hx
    obtain ⟨h1, h2, h3⟩ := boundsA_run (P := P) hp (Nat.le_refl _) false w
    refine ⟨_, ?_, .str _⟩
    simp only [Instr.sliceAt, Sem.run_bind, run_underlying' hu, Result.andThen_ok, Instr.slice, Option.isSome_none, Bool.false_eq_true, if_false, h1, Sem.run_pure]
  · rename_i el hu
    rw [Option.bind_eq_some_iff] at e
    obtain ⟨size, hsz, e⟩ := e
    rw [Option.bind_eq_some_iff] at e
    obtain ⟨p, hp, e⟩ := e
    injection e with e; subst e
    rw [bound_same hp hlo hlo0, bound_same' hp hhi hhi0]
    cases hx
    obtain ⟨h1, h2, h3⟩ := boundsA_run (P := P) hp (Nat.le_refl _) true w
    have hp2 : p.2 = 0 := by omega
    have hp1 : p.1 = 0 := by omega
    refine ⟨.slice none 0 0, ?_, .snil⟩
    simp [Instr.sliceAt, run_underlying' hu, Instr.slice, h1, run_size hsz, hp1, hp2]
  · rename_i el b off n sz hu
    rw [Option.bind_eq_some_iff] at e
    obtain ⟨size, hsz, e⟩ := e
    rw [Option.bind_eq_some_iff] at e
    obtain ⟨p, hp, e⟩ := e
    cases hd : (sz == size || n == 0) with
    | false => rw [hd] at e; simp at e
    | true =>
      rw [hd, cond_true] at e
      injection e with e; subst e
      rw [bound_same hp hlo hlo0, bound_same' hp hhi hhi0]
      simp only [Bool.or_eq_true, beq_iff_eq] at hd
      cases hx with
      | @slice _ _ _ _ B bs c hm hn hz hc =>
        obtain ⟨h1, h2, h3⟩ := boundsA_run (P := P) hp hn true w
        refine ⟨.slice (if c = p.1 then some ⟨B, bs + off, none⟩ else some (Addr.add ⟨B, bs + off, none⟩ (p.1 * size))) (p.2 - p.1) (c - p.1), ?_, ?_⟩
        · simp only [Instr.sliceAt, Sem.run_bind, run_underlying' hu, Result.andThen_ok, Instr.slice, h1, run_size hsz, Sem.run_pure, Option.map_some]
        · by_cases hcp : c = p.1
          · rw [if_pos hcp]
            have : p.2 - p.1 = 0 := by omega
            rw [this, show c - p.1 = 0 by omega]
            exact .sempty
          · rw [if_neg hcp, addr_add]
            have := V.slice (m := m) (S := S) (b := b) (off := off + p.1 * size) (n := p.2 - p.1) (sz := sz) (B := B) (base := bs) (c := c - p.1) hm (by omega) hz (by
              rcases hd with hd | hd
              · subst hd
                have h4 : p.1 * sz + (c - p.1) * sz = c * sz := by rw [← Nat.add_mul]; congr 1; omega
                omega
              · have hp1 : p.1 = 0 := by omega
                rw [hp1]; simp; omega)
            rw [show bs + off + p.1 * size = bs + (off + p.1 * size) by omega]
            exact this
      | sghost hz =>
        obtain ⟨h1, h2, h3⟩ := boundsA_run (P := P) hp (Nat.le_refl _) true w
        have hp2 : p.2 = 0 := by omega
        have hp1 : p.1 = 0 := by omega
        refine ⟨.slice none 0 0, ?_, ?_⟩
        · simp [Instr.sliceAt, run_underlying' hu, Instr.slice, h1, run_size hsz, hp1, hp2]
        · rw [hp1, hp2]; exact .sghost hz
      | sempty =>
        obtain ⟨h1, h2, h3⟩ := boundsA_run (P := P) hp (Nat.le_refl _) true w
        have hp2 : p.2 = 0 := by omega
        have hp1 : p.1 = 0 := by omega
        rename_i a'
        refine ⟨.slice (some a') 0 0, ?_, ?_⟩
        · simp [Instr.sliceAt, run_underlying' hu, Instr.slice, h1, run_size hsz, hp1, hp2]
        · rw [hp1, hp2]; exact .sempty
  · simp at e

end Go.Agm
