/- An abstract machine for one goroutine: its operations on values stand for the model's. No condition. -/
import Derived.Test.YtkjdfkodclednaaDoorA7
namespace Go.Agm

variable {P : Program} {w0 : World} {m : MapN} {E : Nat → Prop} {fr : List AV} {h : AHeap} {a : Act} {w : World} {o : Oper} {next : Act → World → Prop} {Q : Exit → Act → World → Prop}

theorem wp_value {v : Value} {w' : World} (e : (execOp a.eval o).run P w = .ok (.value v) w') (hn : next (a.put o.dst v) w') : o.wp P a w next Q := by
  unfold Oper.wp; rw [e]; exact hn
theorem wp_skip {w' : World} (e : (execOp a.eval o).run P w = .ok .skip w') (hn : next (a.put o.dst undef) w') : o.wp P a w next Q := by
  unfold Oper.wp; rw [e]; exact hn

/-- What is said of what comes behind an operation. -/
def Nx (P : Program) (w0 : World) (m : MapN) (E : Nat → Prop) (w : World) (fr : List AV) (o : Oper) (k : AV → AHeap → Option Res) (r : Res) (next : Act → World → Prop) : Prop :=
  ∀ x h' a' w', Step P w0 m E w (putF fr o.dst x) h' a' w' → k x h' = some r → next a' w'

variable {k : AV → AHeap → Option Res} {r : Res}

theorem Rel.value (hr : Rel P w0 m E fr h a w) (hn : Nx P w0 m E w fr o k r next) {x v : Value} (e : (execOp a.eval o).run P w = .ok (.value v) w) (hv : V m (szB w) x v) (ek : k (.v x) h = some r) : o.wp P a w next Q :=
  wp_value e (hn _ _ _ _ (Step.of (hr.putv hv) (Keep.refl E w)) ek)

theorem on_some {α : Type} {c : Calls1} {x : Option α} {f : α → Option Res} (e : (optM c).on x f = some r) : ∃ y, x = some y ∧ f y = some r := by
  cases x with
  | none => simp [Mach.on, optM] at e
  | some y => exact ⟨y, rfl, e⟩

theorem cond_some {b : Bool} {x : Option Res} {c : Calls1} (e : (bif b then x else (optM c).fail) = some r) : b = true ∧ x = some r := by
  cases b with
  | true => exact ⟨rfl, e⟩
  | false => simp [optM] at e

theorem no_fail {c : Calls1} {p : Prop} (e : (optM c).fail = some r) : p := by simp [optM] at e

/-! Values. -/

theorem plainOut_some {x : Option Value} {y : Value} (e : plainOut x = some y) : x = some y ∧ plainD 5 y = true := by
  unfold plainOut at e
  rw [Option.bind_eq_some_iff] at e
  obtain ⟨z, hz, e⟩ := e
  cases hp : plainD 5 z with
  | true => rw [hp] at e; simp at e; subst e; exact ⟨hz, hp⟩
  | false => rw [hp] at e; simp at e

theorem run_underlying' {t : TypeId} {d : TypeDesc} (e : P.underlying t = some d) (w : World) : (underlying t).run P w = .ok d w := by
  simp only [underlying, program]
  show (match P.underlying t with | some d => pure d | none => stuck "no such type" : Sem TypeDesc).run P w = _
  rw [e]; rfl

theorem run_info {t : TypeId} {i : TypeInfo} (e : P.info? t = some i) (w : World) : (typeInfo t).run P w = .ok i w := by
  simp only [typeInfo, program]
  show (match P.info? t with | some d => pure d | none => stuck "no such type" : Sem TypeInfo).run P w = _
  rw [e]; rfl

theorem run_size {t : TypeId} {n : Nat} (e : sizeT P t = some n) (w : World) : (sizeOf t).run P w = .ok n w := by
  unfold sizeT at e
  cases hi : P.info? t with
  | none => rw [hi] at e; simp at e
  | some i =>
    rw [hi] at e; simp at e
    simp [sizeOf, run_info hi, e]

theorem run_zero {t : TypeId} {z : Value} (e : (P.info? t).bind (·.zero) = some z) (w : World) : (zeroValue t).run P w = .ok z w := by
  cases hi : P.info? t with
  | none => rw [hi] at e; simp at e
  | some i =>
    rw [hi] at e
    simp only [Option.bind_some] at e
    simp [zeroValue, run_info hi, e]

def aggD : TypeDesc → Bool
  | .struct _ => true
  | .array _ _ => true
  | _ => false

theorem run_isAgg {t : TypeId} {d : TypeDesc} (e : P.underlying t = some d) (w : World) : (isAgg t).run P w = .ok (aggD d) w := by
  simp only [isAgg, Sem.run_bind, run_underlying' e, Result.andThen_ok]
  cases d <;> rfl

theorem zeroT_some {t : TypeId} {cs : List Value} (e : zeroT P t = some cs) : ∃ z, (P.info? t).bind (·.zero) = some z ∧ cs = z.cells.toList ∧ (∀ x ∈ cs, plainD 2 x = true) ∧ ∀ x ∈ cs, one x = true := by
  unfold zeroT at e
  split at e
  · rename_i z hz
    cases hp : (z.cells.toList.all (plainD 2) && z.cells.toList.all one) with
    | true =>
      rw [hp] at e
      simp only [cond_true, Option.some.injEq] at e
      simp only [Bool.and_eq_true, List.all_eq_true] at hp
      subst e
      exact ⟨z, hz, rfl, hp.1, hp.2⟩
    | false => rw [hp] at e; simp at e
  · simp at e

/-- A part of cells. -/
theorem run_part {t : TypeId} {cs : List Value} {off : Nat} {x : Value} (e : partA P t cs off = some x) {S : Nat → Nat} {ys : List Value} (hv : VL m S cs ys) (ho : ∀ z ∈ cs, one z = true) (w : World) :
    ∃ y, (part t ys.toArray off).run P w = .ok y w ∧ V m S x y := by
  unfold partA at e
  have key : ∀ d, P.underlying t = some d → aggD d = true → ((sizeT P t).bind fun n => bif Nat.ble (off + n) cs.length then some (Value.agg ((cs.drop off).take n).toArray) else none) = some x →
      ∃ y, (part t ys.toArray off).run P w = .ok y w ∧ V m S x y := by
    intro d hd hagg e
    rw [Option.bind_eq_some_iff] at e
    obtain ⟨n, hn, e⟩ := e
    cases hb : Nat.ble (off + n) cs.length with
    | false => rw [hb] at e; simp at e
    | true =>
      rw [hb] at e
      simp only [cond_true, Option.some.injEq] at e
      subst e
      refine ⟨.agg (ys.toArray.extract off (off + n)), ?_, ?_⟩
      · simp only [part, Sem.run_bind, run_isAgg hd, Result.andThen_ok, hagg, if_true, run_size hn]
        rfl
      · refine .agg ?_ (fun z hz => ho z (List.mem_of_mem_drop (List.mem_of_mem_take hz)))
        simp only [Array.toList_extract, List.toList_toArray, List.extract_eq_take_drop]
        rw [show off + n - off = n by omega]
        exact (hv.drop off).take n
  split at e
  · rename_i fs hd; exact key _ hd rfl e
  · rename_i n e' hd; exact key _ hd rfl e
  · rename_i d hd1 hd2 hd
    obtain ⟨y, hy, hvy⟩ := hv.get e
    refine ⟨y, ?_, hvy⟩
    have hagg : aggD d = false := by
      cases d <;> first | rfl | (exact absurd rfl (hd1 _)) | (exact absurd rfl (hd2 _ _)) | (exact absurd hd (hd1 _)) | (exact absurd hd (hd2 _ _))
    simp only [part, Sem.run_bind, run_isAgg hd, Result.andThen_ok, hagg, Bool.false_eq_true, if_false]
    have : ys.toArray[off]? = some y := by simpa using hy
    rw [this]; rfl
  · simp at e

end Go.Agm
