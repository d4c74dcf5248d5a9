/- Deleting what is free of a row of things. No condition. -/
import Derived.Test.YtdggbficiakbhaaHoldL
namespace Go.Proofs.Ytdggbficiakbhaa
open Go.Agm
variable {w0 : World}

theorem ok51 : CallsOk Try.prog w0 (callsOf Try.prog.globals.size [con53, con52]) := callsOf_ok fun c hc => by
  simp only [List.mem_cons, List.not_mem_nil, or_false] at hc
  rcases hc with rfl | rfl
  · exact con53_ok
  · exact con52_ok

def keptD (d : Int → Bool) (l : List (Int × Int)) : List (Int × Int) := l.filter fun p => !(d p.2)
def freeD (d : Int → Bool) (l : List (Int × Int)) : List Int := (l.filter fun p => d p.2).map (·.1)

theorem kept_pos {d : Int → Bool} {p : Int × Int} {r : List (Int × Int)} (h : d p.2 = true) : keptD d (p :: r) = keptD d r := List.filter_cons_of_neg (by simp [h])
theorem kept_neg {d : Int → Bool} {p : Int × Int} {r : List (Int × Int)} (h : d p.2 = false) : keptD d (p :: r) = p :: keptD d r := List.filter_cons_of_pos (by simp [h])
theorem free_pos {d : Int → Bool} {p : Int × Int} {r : List (Int × Int)} (h : d p.2 = true) : freeD d (p :: r) = p.1 :: freeD d r := by
  unfold freeD; rw [List.filter_cons_of_pos (by simp [h])]; rfl
theorem free_neg {d : Int → Bool} {p : Int × Int} {r : List (Int × Int)} (h : d p.2 = false) : freeD d (p :: r) = freeD d r := by
  unfold freeD; rw [List.filter_cons_of_neg (by simp [h])]

theorem prs_append (a b : List (Int × Int)) : prs (a ++ b) = prs a ++ prs b := by
  induction a with
  | nil => rfl
  | cons p r ih => simp [prs, ih]
theorem prs_take : ∀ (l : List (Int × Int)) (k : Nat), (prs l).take (k * 2) = prs (l.take k)
  | [], k => by simp [prs]
  | p :: r, 0 => by simp [prs]
  | p :: r, k + 1 => by
    have e : (k + 1) * 2 = k * 2 + 1 + 1 := by omega
    rw [e, List.take_succ_cons]
    simp only [prs, List.take_succ_cons, prs_take r k]
theorem splice_prs : ∀ {l : List (Int × Int)} {i : Nat} (x y : Int), i < l.length → splice (prs l) (i * 2) [I x, I y] = prs (l.set i (x, y))
  | [], i, x, y, h => by simp at h
  | p :: r, 0, x, y, h => by simp [splice, prs]
  | p :: r, i + 1, x, y, h => by
    have := splice_prs (l := r) (i := i) x y (by simpa using h)
    have e : (i + 1) * 2 = i * 2 + 1 + 1 := by omega
    rw [List.set_cons_succ]
    simp only [prs]
    rw [← this, e]
    simp only [splice, List.take_succ_cons, List.length_cons, List.length_nil]
    have e2 : i * 2 + 1 + 1 + (0 + 1 + 1) = (i * 2 + (0 + 1 + 1)) + 1 + 1 := by omega
    rw [e2, List.drop_succ_cons, List.drop_succ_cons]; rfl

theorem loop51 (la : Int) (n m q : Nat) (ins : List Int) (hins : ins.length = n) (hq : q < 1000000000) (R : List (Int × Int)) (O : List Int) (hO : O.length < 1000000000) : ∀ (k i j : Nat) (l : List (Int × Int)) (o : List Int), l.length = q → i ≤ j → j + k = q →
    R = l.take i ++ keptD (diesB ins) (l.drop j) → O = o ++ freeD (diesB ins) (l.drop j) →
    Agm.Sem Try.prog w0 (Try.prog.globals.size + nt51.flags.length) Try.f51 (retT Try.prog.globals.size nr51 fun rs' h' => rs' = [SL (G + 4) R.length 2] ∧ h' = H1 la n m O.length (ints ins) (prs R) (ints O))
      todo51 (fr51 q (i : Int) (j : Int)) (H1 la n m o.length (ints ins) (prs l) (ints o)) := by
  intro k
  induction k with
  | zero =>
    intro i j l o hl hij hj hR hOo
    refine seg_sem2 (F := ft51) mixed ok51 (fun _ _ _ => canonT_sem) [5] 60 ((head51 la q n m o.length (ints ins) (prs l) (ints o) i j _ _).mpr ?_)
    have h1 : ¬ ((j : Int) < (q : Int)) := by omega
    have h2 : (0 : Int) ≤ (i : Int) := by omega
    have h3 : (i : Int) ≤ (q : Int) := by omega
    have hR' : R = l.take i := by rw [hR, List.drop_eq_nil_of_le (by omega)]; simp [keptD]
    have hO' : O = o := by rw [hOo, List.drop_eq_nil_of_le (by omega)]; simp [freeD]
    have hRl : R.length = i := by rw [hR', List.length_take]; omega
    simp only [h1, h2, h3, decide_false, decide_true, cond_false, cond_true, Bool.and_self, Int.toNat_natCast, Nat.sub_zero, Nat.zero_add]
    cases hb : Nat.beq (q - i) 0 with
    | true =>
      simp only [cond_true]
      rw [prs_take, ← hR', hO']
      exact ⟨⟨plain_ints _, plain_prs _, plain_ints _, trivial⟩, by rw [hRl], rfl⟩
    | false =>
      simp only [cond_false]
      have h7 : Nat.ble (i * 2 + (q - i) * 2) (prs l).length = true := Nat.ble_eq_true_of_le (by rw [prs_len]; omega)
      rw [h7, cond_true, splice_take _ _ _ (by rw [prs_len]; omega), prs_take, ← hR', hO']
      exact ⟨⟨plain_ints _, plain_prs _, plain_ints _, trivial⟩, by rw [hRl], rfl⟩
  | succ k ih =>
    intro i j l o hl hij hj hR hOo
    refine seg_sem2 (F := ft51) mixed ok51 (fun _ _ _ => canonT_sem) [5] 60 ((head51 la q n m o.length (ints ins) (prs l) (ints o) i j _ _).mpr ?_)
    have h1 : (j : Int) < (q : Int) := by omega
    have h2 : (0 : Int) ≤ (j : Int) := by omega
    have h3 : (0 : Int) ≤ (i : Int) := by omega
    have h4 : (i : Int) < (q : Int) := by omega
    have hjl : j < l.length := by omega
    have hil : i < l.length := by omega
    obtain ⟨e1, e2, e3⟩ := el_prs hjl
    have hw1 : w ((i : Int) + 1) = ((i + 1 : Nat) : Int) := by rw [w_id (by omega) (by omega)]; omega
    have hw2 : w ((j : Int) + 1) = ((j + 1 : Nat) : Int) := by rw [w_id (by omega) (by omega)]; omega
    have hd : l.drop j = l[j] :: l.drop (j + 1) := List.drop_eq_getElem_cons hjl
    have ho : o.length < 1000000000 := by rw [hOo, List.length_append] at hO; omega
    simp only [h1, h2, h3, h4, decide_true, cond_true, Bool.and_self, e1, e2, e3, hw1, hw2, oX, unI_ints, Int.toNat_natCast, Nat.zero_add]
    refine ⟨⟨⟨plain_ints _, plain_prs _, plain_ints _, trivial⟩, ⟨plain_ints _, plain_prs _, plain_ints _, trivial⟩, ⟨by rw [unI_ints], by rw [ints_len, hins], plain_prs _, by rw [unI_ints], ints_len _, ho⟩⟩, ?_⟩
    rw [hd] at hR hOo
    cases hc : diesB ins l[j].2 with
    | true =>
      simp only [Bool.not_true, cond_false, outB, cond_true]
      refine ⟨⟨plain_ints _, plain_prs _, plain_ints _, trivial⟩, ih i (j + 1) l (o ++ [l[j].1]) hl (by omega) (by omega) ?_ ?_⟩
      · rw [hR, kept_pos hc]
      · rw [hOo, free_pos hc, List.append_assoc]; rfl
    | false =>
      have h7 : Nat.ble (i * 2 + 2) (prs l).length = true := Nat.ble_eq_true_of_le (by rw [prs_len]; omega)
      simp only [Bool.not_false, cond_true, h7, splice_prs _ _ hil, outB, cond_false]
      refine ⟨⟨plain_ints _, plain_prs _, plain_ints _, trivial⟩, ih (i + 1) (j + 1) (l.set i (l[j].1, l[j].2)) o (by rw [List.length_set]; exact hl) (by omega) (by omega) ?_ ?_⟩
      · rw [hR, List.drop_set_of_lt (by omega)]
        have : (l.set i (l[j].1, l[j].2)).take (i + 1) = l.take i ++ [l[j]] := by
          rw [List.take_succ_eq_append_getElem (by rw [List.length_set]; exact hil), List.take_set_of_le (by omega), List.getElem_set_self]
        rw [this, List.append_assoc, kept_neg hc]; rfl
      · rw [hOo, List.drop_set_of_lt (by omega), free_neg hc]

theorem idxD_none {d : Int → Bool} : ∀ {l : List (Int × Int)} {i : Int} {o : List Int}, 0 ≤ i → idxD d l i = -1 → keptD d l = l ∧ outD d l o = o ∧ freeD d l = []
  | [], _, _, _, _ => ⟨rfl, rfl, rfl⟩
  | p :: r, i, o, hi, e => by
    simp only [idxD] at e
    cases hc : d p.2 with
    | true => rw [hc, cond_true] at e; omega
    | false =>
      rw [hc, cond_false] at e
      obtain ⟨h1, h2, h3⟩ := idxD_none (l := r) (o := o) (by omega) e
      refine ⟨?_, by simp [outD, hc, h2], ?_⟩
      · rw [kept_neg hc, h1]
      · rw [free_neg hc, h3]
theorem idxD_some {d : Int → Bool} : ∀ {l : List (Int × Int)} {i : Nat} {o : List Int}, idxD d l (i : Int) ≠ -1 → ∃ k, idxD d l (i : Int) = ((i + k : Nat) : Int) ∧ k < l.length ∧ keptD d l = l.take k ++ keptD d (l.drop (k + 1)) ∧ outD d l o ++ freeD d (l.drop (k + 1)) = o ++ freeD d l
  | [], _, _, e => absurd rfl e
  | p :: r, i, o, e => by
    simp only [idxD] at e ⊢
    cases hc : d p.2 with
    | true => exact ⟨0, by simp, by simp, by rw [kept_pos hc]; rfl, by simp only [outD, hc, cond_true]; rw [free_pos hc, List.append_assoc]; rfl⟩
    | false =>
      rw [hc, cond_false] at e
      have e1 : ((i : Int) + 1) = ((i + 1 : Nat) : Int) := by omega
      rw [e1] at e ⊢
      obtain ⟨k, h1, h2, h3, h4⟩ := idxD_some (l := r) (i := i + 1) (o := o) e
      refine ⟨k + 1, by rw [cond_false, h1]; congr 1; omega, by simpa using h2, ?_, ?_⟩
      · rw [kept_neg hc, h3]; rfl
      · simp only [outD, hc, cond_false]
        rw [free_neg hc]
        exact h4

def pre51 (q n k : Nat) (ci ch co : List Value) : Prop := pre53 q n k ci ch co ∧ k + q < 1000000000
noncomputable def res51 (la : Int) (n m : Nat) (ci : List Value) (R : List (Int × Int)) (O : List Int) : List OutB :=
  [(false, some (.cells [PT (G + 2)] true)), (false, some (.cells [SL (G + 6) O.length 1] true)), (false, some (.cells [I la, SL (G + 3) n 1, SL (G + 4) m 2] true)), (true, some (.cells ci true)), (true, some (.cells (prs R) true)), (true, none), (true, some (.cells (ints O) true))]
noncomputable def con51 : Con := { f := 51, gh := [⟨1, some ([1], 0), 1⟩], paths := paths53, spec := fun args bs => match args with
  | [s, f] => match slN s 4 2, hp52s bs with
    | some q, some (la, n, m, k, ci, ch, co) => bif isF2 f 52 0 1 then
        some (pre51 q n k ci ch co, [SL (G + 4) (keptD (diesB (unI ci)) (unP ch)).length 2], res51 la n m ci (keptD (diesB (unI ci)) (unP ch)) (unI co ++ freeD (diesB (unI ci)) (unP ch))) else none
    | _, _ => none
  | _ => none }

theorem con51_ok : con51.ok Try.prog w0 := by
  intro args bs p rs out e hp
  simp only [con51] at e
  split at e <;> first | (simp at e; done) | skip
  split at e <;> first | (simp at e; done) | skip
  rename_i s f _ _ q la n m k ci ch co hs hb
  cases hq : isF2 f 52 0 1 with
  | false => rw [hq] at e; simp at e
  | true =>
    rw [hq] at e
    simp only [cond_true, Option.some.injEq, Prod.mk.injEq] at e
    obtain ⟨rfl, rfl, rfl⟩ := e
    rw [slN_eq hs, hp52s_eq hb, isF2_eq hq]
    obtain ⟨⟨h1, h2, h3, h4, h5, h6, h7, h8⟩, h9⟩ := hp
    rw [h1] at h2 ⊢
    rw [h6] at h7 ⊢
    rw [h3]
    rw [ints_len] at h2 h7
    generalize unI ci = ins at h2 ⊢
    generalize unI co = o at h7 ⊢
    generalize unP ch = l at h4 ⊢
    subst h2 h7 h4
    rw [unI_ints, unI_ints, unP_prs]
    refine con_body (f := 51) (fn := Try.f51) (cd := Try.f51.body.getD .skip) (nt := nr51) Try.func51 (by kernel_rfl) rfl ?_
    change Agm.Sem Try.prog w0 (Try.prog.globals.size + nt51.flags.length) _ _ _ _ _
    refine seg_sem2 (F := ft51) mixed ok51 (fun _ _ _ => canonT_sem) [5] 60 ((start51 la l.length ins.length m o.length (ints ins) (prs l) (ints o) _ _).mpr ?_)
    simp only [oD, iD, unI_ints, unP_prs]
    refine ⟨⟨⟨plain_ints _, plain_prs _, plain_ints _, trivial⟩, ⟨plain_ints _, plain_prs _, plain_ints _, trivial⟩, ⟨by rw [unI_ints], ints_len _, by rw [unP_prs], by rw [unP_prs], h5, by rw [unI_ints], ints_len _, h8⟩⟩, ?_⟩
    by_cases hi : idxD (diesB ins) l 0 = -1
    · have hb : (idxD (diesB ins) l 0 == -1) = true := by simp [hi]
      obtain ⟨k1, k2, k3⟩ := idxD_none (o := o) (by omega) hi
      rw [hb, cond_true, k2, k1, k3, prs_take, List.take_length, List.append_nil]
      exact ⟨⟨plain_ints _, plain_prs _, plain_ints _, trivial⟩, rfl, rfl⟩
    · have hb : (idxD (diesB ins) l 0 == -1) = false := by simp [hi]
      rw [hb, cond_false]
      refine ⟨⟨plain_ints _, plain_prs _, plain_ints _, trivial⟩, ?_⟩
      obtain ⟨k, k1, k2, k3, k4⟩ := idxD_some (l := l) (i := 0) (o := o) hi
      have k1' : idxD (diesB ins) l 0 = ((k : Nat) : Int) := by have := k1; simpa using this
      rw [k1']
      have hw : w ((k : Int) + 1) = ((k + 1 : Nat) : Int) := by rw [w_id (by omega) (by omega)]; omega
      rw [hw]
      refine loop51 la ins.length m l.length ins rfl h5 _ _ ?_ (l.length - (k + 1)) k (k + 1) l _ rfl (by omega) (by omega) k3 k4.symm
      have := List.length_filter_le (fun p : Int × Int => diesB ins p.2) l
      simp only [List.length_append, freeD, List.length_map]
      omega
end Go.Proofs.Ytdggbficiakbhaa
