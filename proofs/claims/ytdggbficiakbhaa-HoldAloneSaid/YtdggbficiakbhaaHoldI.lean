/- Whether a thing is free: the closure's contract. No condition. -/
import Derived.Test.YtdggbficiakbhaaHoldH
namespace Go.Proofs.Ytdggbficiakbhaa
open Go.Agm
variable {w0 : World}

/-- Nobody is inside who may look at it. -/
def diesB (ins : List Int) (l : Int) : Bool := match ins with
  | [] => true
  | a :: _ => !decide (a ≤ l)
def outB (d : Bool) (o : List Int) (x : Int) : List Int := bif d then o ++ [x] else o

noncomputable def hp52s (bs : List (Option ABlk)) : Option (Int × Nat × Nat × Nat × List Value × List Value × List Value) := match bs with
  | [some (.cells [p2] true), some (.cells [so] true), some (.cells [la, si, sh] true), some (.cells ci true), some (.cells ch true), some (.cells co true)] =>
    match intV la, slN si 3 1, slN sh 4 2, slN so 5 1 with
    | some la, some n, some m, some k => bif isPtr p2 2 then some (la, n, m, k, ci, ch, co) else none
    | _, _, _, _ => none
  | _ => none
theorem hp52s_eq {bs : List (Option ABlk)} {la : Int} {n m k : Nat} {ci ch co : List Value} (e : hp52s bs = some (la, n, m, k, ci, ch, co)) : bs = hp52 la n m k ci ch co := by
  unfold hp52s at e
  split at e <;> first | (simp at e; done) | skip
  split at e <;> first | (simp at e; done) | skip
  rename_i p2 so la' si sh ci' ch' co' _ _ _ _ la2 n' m' k' h1 h2 h3 h4
  cases hq : isPtr p2 2 with
  | false => rw [hq] at e; simp at e
  | true =>
    rw [hq] at e
    simp only [cond_true, Option.some.injEq, Prod.mk.injEq] at e
    obtain ⟨rfl, rfl, rfl, rfl, rfl, rfl, rfl⟩ := e
    rw [intV_eq h1, slN_eq h2, slN_eq h3, slN_eq h4, isPtr_eq hq]
    rfl

def pre52 (n k : Nat) (ci ch co : List Value) : Prop := ci = ints (unI ci) ∧ ci.length = n ∧ PlainL ch ∧ co = ints (unI co) ∧ co.length = k ∧ k < 1000000000
noncomputable def res52 (la : Int) (n m : Nat) (ci ch : List Value) (o : List Int) : List OutB :=
  [(false, some (.cells [PT (G + 2)] true)), (false, some (.cells [SL (G + 6) o.length 1] true)), (false, some (.cells [I la, SL (G + 3) n 1, SL (G + 4) m 2] true)), (true, some (.cells ci true)), (true, some (.cells ch true)), (true, none), (true, some (.cells (ints o) true))]
def dropV (v : Value) : Option (Int × Int) := match v with
  | .agg xs => match xs.toList with
    | [x, l] => match intV x, intV l with
      | some x, some l => some (x, l)
      | _, _ => none
    | _ => none
  | _ => none
theorem dropV_eq {v : Value} {p : Int × Int} (e : dropV v = some p) : v = .agg #[I p.1, I p.2] := by
  unfold dropV at e
  split at e <;> first | (simp at e; done) | skip
  rename_i xs
  split at e <;> first | (simp at e; done) | skip
  rename_i x l hx
  split at e <;> first | (simp at e; done) | skip
  rename_i x' l' h1 h2
  injection e with e
  subst e
  have : xs = #[x, l] := Array.toList_inj.1 hx
  rw [this, intV_eq h1, intV_eq h2]

noncomputable def con52 : Con := { f := 52, gh := [⟨2, some ([], 0), 1⟩], paths := [⟨1, [], false⟩, ⟨2, [], false⟩, ⟨1, [0], false⟩, ⟨1, [0, 1], true⟩, ⟨1, [0, 2], true⟩, ⟨2, [0], true⟩], spec := fun args bs => match args with
  | [d, p, q] => match dropV d, hp52s bs with
    | some d, some (la, n, m, k, ci, ch, co) => bif isPtr p 0 && isPtr q 1 then
        some (pre52 n k ci ch co, [.bool (diesB (unI ci) d.2)], res52 la n m ci ch (outB (diesB (unI ci) d.2) (unI co) d.1)) else none
    | _, _ => none
  | _ => none }

theorem room8 {k : Nat} (h : k < 1000000000) : room (k + 1) 8 = true := Nat.ble_eq_true_of_le (by omega)

theorem con52_ok : con52.ok Try.prog w0 := by
  intro args bs p rs out e hp
  simp only [con52] at e
  split at e <;> first | (simp at e; done) | skip
  split at e <;> first | (simp at e; done) | skip
  rename_i d q1 q2 _ _ d' la n m k ci ch co hd hb
  cases hq : (isPtr q1 0 && isPtr q2 1) with
  | false => rw [hq] at e; simp at e
  | true =>
    rw [hq] at e
    simp only [cond_true, Option.some.injEq, Prod.mk.injEq] at e
    obtain ⟨rfl, rfl, rfl⟩ := e
    simp only [Bool.and_eq_true] at hq
    rw [dropV_eq hd, hp52s_eq hb, isPtr_eq hq.1, isPtr_eq hq.2]
    obtain ⟨h1, h2, h3, h4, h5, h6⟩ := hp
    rw [h1] at h2 ⊢
    rw [h4] at h5 ⊢
    rw [ints_len] at h2 h5
    generalize unI ci = ins at h2 ⊢
    generalize unI co = o at h5 ⊢
    subst h2 h5
    rw [unI_ints, unI_ints]
    refine con_body (f := 52) (fn := Try.f52) (cd := Try.f52.body.getD .skip) (nt := nt52) Try.func52 (by kernel_rfl) rfl ?_
    refine seg_sem2 (F := ft0) (c := callsOf G []) (leaf := fun _ _ _ => False) mixed (callsOf_ok (by simp)) (fun _ _ _ h => h.elim) [] 60 ((run52 d'.1 d'.2 la ins.length m o.length (ints ins) ch (ints o) _).mpr ?_)
    have h7 : Nat.ble (0 + o.length * 1) (ints o).length = true := Nat.ble_eq_true_of_le (by rw [ints_len]; omega)
    have h8 : ((ints o).drop 0).take (o.length * 1) ++ [I d'.1] = ints (o ++ [d'.1]) := by
      rw [List.drop_zero, Nat.mul_one, ints_take, List.take_length]
      simp [ints]
    have h9 : (o ++ [d'.1]).length = o.length + 1 := by simp
    have hch : pl ch := h3
    have tail : diesB ins d'.2 = true → (bif room (o.length + 1) 8 then bif Nat.ble (0 + o.length * 1) (ints o).length then ((pl (ints ins) ∧ pl ch ∧ pl (((ints o).drop 0).take (o.length * 1) ++ [I d'.1]) ∧ True) ∧
        ((fun rs' h' => rs' = [.bool (diesB ins d'.2)] ∧ h' = heapB G ((res52 la ins.length m (ints ins) ch (outB (diesB ins d'.2) o d'.1)).map (·.2))) : List Value → AHeap → Prop) [.bool true] (heapB G (ho52 la ins.length m (o.length + 1) (ints ins) ch (((ints o).drop 0).take (o.length * 1) ++ [I d'.1])))) else False else False) := by
      intro hd
      rw [room8 h6, h7, h8, hd]
      refine ⟨⟨plain_ints _, hch, plain_ints _, trivial⟩, rfl, ?_⟩
      simp only [outB, cond_true, ← h9]
      rfl
    cases ins with
    | nil =>
      have hn : ¬ (((([] : List Int).length : Nat) : Int) > 0) := by simp
      simp only [hn, decide_false, cond_false]
      exact tail rfl
    | cons b r =>
      have hn : ((((b :: r).length : Nat) : Int) > 0) := by simp
      have e0 : nth (ints (b :: r)) (0 + (0 : Int).toNat * 1) = some (I b) := rfl
      have e1 : okI .i64 (some (I b)) = true := rfl
      have e2 : intO (some (I b)) = b := rfl
      simp only [hn, decide_true, cond_true, Bool.and_self, Int.le_refl, e0, e1, e2]
      by_cases hle : b ≤ d'.2
      · have hdd : diesB (b :: r) d'.2 = false := by simp [diesB, hle]
        simp only [hle, decide_true, cond_true, hdd, outB, cond_false]
        exact ⟨⟨plain_ints _, hch, plain_ints _, plain_ints _, trivial⟩, by trivial, rfl⟩
      · have hdd : diesB (b :: r) d'.2 = true := by simp [diesB, hle]
        simp only [hle, decide_false, cond_false]
        exact tail hdd
end Go.Proofs.Ytdggbficiakbhaa
