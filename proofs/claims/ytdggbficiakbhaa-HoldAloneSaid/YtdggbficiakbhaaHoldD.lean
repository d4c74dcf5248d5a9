/- Deleting a number from a row: the closure, the first of them. No condition. -/
import Derived.Test.YtdggbficiakbhaaHoldC
namespace Go.Proofs.Ytdggbficiakbhaa
open Go.Agm
variable {w0 : World}

theorem tn_prims {W : World} : PrimOk Try.prog W tn := no_prims fun _ => rfl
theorem mixed : Try.prog.follows .mixedOrders = true := Checked.mixed Try.checked

noncomputable def con42 : Con := { f := 42, gh := [], paths := [⟨1, [], false⟩], spec := fun args bs => match args, bs with
  | [x, p], [some (.cells [t] true)] => match intV x, intV t with
    | some x, some t => bif isPtr p 0 then some (True, [.bool (x == t)], [(false, some (.cells [I t] true))]) else none
    | _, _ => none
  | _, _ => none }
theorem con42_run (x t : Int) : runK Try.prog tn 60 42 [I x, PT G] (heapB G [some (.cells [I t] true)]) = some ([.bool (x == t)], heapB G [some (.cells [I t] true)]) := by kernel_rfl
theorem con42_ok : con42.ok Try.prog w0 := by
  intro args bs p rs out e hp
  simp only [con42] at e
  split at e <;> first | (simp at e; done) | skip
  split at e <;> first | (simp at e; done) | skip
  rename_i x q t _ _ x' t' hx ht
  cases hq : isPtr q 0 with
  | false => rw [hq] at e; simp at e
  | true =>
    rw [hq] at e
    simp only [cond_true, Option.some.injEq, Prod.mk.injEq] at e
    obtain ⟨rfl, rfl, rfl⟩ := e
    rw [intV_eq hx, intV_eq ht, isPtr_eq hq]
    exact (call_run mixed tn_prims (run_of (con42_run x' t'))).mono fun _ _ hh => hh

noncomputable def isF1 (v : Value) (g i : Nat) : Bool := match v with
  | .func (.func g') xs ys => Nat.beq g' g && Nat.beq xs.size 0 && (match ys.toList with
    | [p] => isPtr p i
    | _ => false)
  | _ => false
theorem isF1_eq {v : Value} {g i : Nat} (e : isF1 v g i = true) : v = .func (.func g) #[] #[PT (G + i)] := by
  unfold isF1 at e
  split at e
  · rename_i g' xs ys
    simp only [Bool.and_eq_true] at e
    obtain ⟨⟨h1, h2⟩, h3⟩ := e
    split at h3
    · rename_i p hp
      have e1 : xs = #[] := Array.eq_empty_of_size_eq_zero (Nat.eq_of_beq_eq_true h2)
      have e2 : ys = #[p] := Array.toList_inj.1 hp
      rw [Nat.eq_of_beq_eq_true h1, e1, e2, isPtr_eq h3]
    · simp at h3
  · simp at e

def idxF (t : Int) : List Int → Int → Int
  | [], _ => -1
  | x :: r, i => bif x == t then i else idxF t r (i + 1)

noncomputable def con50 : Con := { f := 50, gh := [], paths := [⟨1, [0], false⟩, ⟨0, [], true⟩], spec := fun args bs => match args, bs with
  | [s, f], [some (.cells [t] true), some (.cells cs rw)] => match slN s 1 1, intV t with
    | some n, some t => bif isF1 f 42 0 then some (cs = ints (unI cs) ∧ cs.length = n ∧ n < 1000000000, [I (idxF t (unI cs) 0)], [(false, some (.cells [I t] true)), (true, some (.cells cs rw))]) else none
    | _, _ => none
  | _, _ => none }

def ft50 : FT := { loc := fun _ => false, mask := fun id => bif Nat.beq id 2 then live 19 [0, 1, 7, 8] else [] }
noncomputable abbrev F42 (i : Nat) : Value := .func (.func 42) #[] #[PT (G + i)]
abbrev nm50 : Nt := nmOf [false, true] []
noncomputable def hp50 (t : Int) (cs : List Value) (rw : Bool) : AHeap := heapB G [some (.cells [I t] true), some (.cells cs rw)]
noncomputable def todo50 : List Item := todoAt Try.f50 ft50 2 (startF Try.f50 [SL (G + 1) 0 1, F42 0]) (hp50 0 [] true)
noncomputable def fr50 (n : Nat) (i : Int) : List AV := frm 19 [(0, .v (SL (G + 1) n 1)), (1, .v (F42 0)), (7, .v (I n)), (8, .v (I i))]

theorem start50 (n : Nat) (t : Int) (cs : List Value) (rw : Bool) (Q : Post) (L : List Item → List AV → AHeap → Prop) :
    segK2 Try.prog ft50 (semM (callsOf G [con42]) Q) Try.f50 [2] 60 [.code (Try.f50.body.getD .skip)] (startF Try.f50 [SL (G + 1) n 1, F42 0]) (fun t fr h => canonT G nm50 (L t) fr h) (hp50 t cs rw)
    = ((plainB (.cells cs rw) ∧ True) ∧ L todo50 (fr50 n 0) (hp50 t cs rw)) := by kernel_rfl
theorem head50 (n : Nat) (i t : Int) (cs : List Value) (rw : Bool) (K : List Value → AHeap → Prop) (L : List Item → List AV → AHeap → Prop) :
    segK2 Try.prog ft50 (semM (callsOf G [con42]) (retT G nm50 K)) Try.f50 [2] 60 todo50 (fr50 n i) (fun t fr h => canonT G nm50 (L t) fr h) (hp50 t cs rw)
    = (bif decide (i < n) then bif decide (0 ≤ i) && decide (i < n) then bif okI .i64 (nth cs (0 + i.toNat * 1)) then
        ((True ∧ True ∧ True) ∧ bif (intO (nth cs (0 + i.toNat * 1)) == t) then ((plainB (.cells cs rw) ∧ True) ∧ K [I i] (hp50 t cs rw)) else ((plainB (.cells cs rw) ∧ True) ∧ L todo50 (fr50 n (w (i + 1))) (hp50 t cs rw)))
        else False else False
      else ((plainB (.cells cs rw) ∧ True) ∧ K [I (-1)] (hp50 t cs rw))) := by kernel_rfl
end Go.Proofs.Ytdggbficiakbhaa
