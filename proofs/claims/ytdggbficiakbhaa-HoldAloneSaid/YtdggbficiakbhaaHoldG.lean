/- Deleting a number from a row. No condition. -/
import Derived.Test.YtdggbficiakbhaaHoldF
namespace Go.Proofs.Ytdggbficiakbhaa
open Go.Agm
variable {w0 : World}

theorem ints_take (l : List Int) (k : Nat) : (ints l).take k = ints (l.take k) := by simp [ints]
theorem splice_set : ∀ {cs : List Value} {i : Nat} {x : Value}, i < cs.length → splice cs i [x] = cs.set i x
  | [], i, x, h => by simp at h
  | c :: cs, 0, x, h => by simp [splice]
  | c :: cs, i + 1, x, h => by
    have := splice_set (cs := cs) (i := i) (x := x) (by simpa using h)
    simp only [splice, List.length_singleton] at this ⊢
    rw [List.set_cons_succ, ← this]
    have e : i + 1 + 1 = (i + 1) + 1 := rfl
    rw [e, List.drop_succ_cons]; rfl
theorem splice_ints {l : List Int} {i : Nat} (x : Int) (h : i < l.length) : splice (ints l) i [I x] = ints (l.set i x) := by
  rw [splice_set (by rw [ints_len]; exact h), ints, ints, List.map_set]
theorem splice_take (cs xs : List Value) (i : Nat) (h : i ≤ cs.length) : (splice cs i xs).take i = cs.take i := by
  unfold splice
  rw [List.append_assoc, List.take_append_of_le_length (by rw [List.length_take]; omega), List.take_take, Nat.min_self]

theorem ok41 : CallsOk Try.prog w0 (callsOf Try.prog.globals.size [con50, con42]) := callsOf_ok fun c hc => by
  simp only [List.mem_cons, List.not_mem_nil, or_false] at hc
  rcases hc with rfl | rfl
  · exact con50_ok
  · exact con42_ok

theorem loop41 (t : Int) (n : Nat) (hn : n < 1000000000) (T : List Int) : ∀ (k i j : Nat) (l : List Int), l.length = n → i ≤ j → j + k = n → T = l.take i ++ (l.drop j).filter (fun x => !(x == t)) →
    Agm.Sem Try.prog w0 (Try.prog.globals.size + nm50.flags.length) Try.f41 (retT Try.prog.globals.size nt41 fun rs' h' => rs' = [SL (G + 1) T.length 1] ∧ h' = hp50 t (ints T) true) todo41 (fr41 n i j) (hp50 t (ints l) true) := by
  intro k
  induction k with
  | zero =>
    intro i j l hl hij hj hT
    refine seg_sem2 (F := ft41) mixed ok41 (fun _ _ _ => canonT_sem) [5] 60 ((head41 n i j t (ints l) _ _).mpr ?_)
    have h1 : ¬ ((j : Int) < (n : Int)) := by omega
    have h2 : (0 : Int) ≤ (i : Int) := by omega
    have h3 : (i : Int) ≤ (n : Int) := by omega
    have hT' : T = l.take i := by rw [hT, List.drop_eq_nil_of_le (by omega)]; simp
    have hTl : T.length = i := by rw [hT', List.length_take]; omega
    simp only [h1, h2, h3, decide_false, decide_true, cond_false, cond_true, Bool.and_self, Int.toNat_natCast, Nat.sub_zero, Nat.zero_add, Nat.mul_one]
    cases hb : Nat.beq (n - i) 0 with
    | true =>
      simp only [cond_true]
      rw [ints_take, ← hT']
      exact ⟨⟨plain_ints T, trivial⟩, by rw [hTl], rfl⟩
    | false =>
      simp only [cond_false]
      have h7 : Nat.ble (i + (n - i)) (ints l).length = true := Nat.ble_eq_true_of_le (by rw [ints_len]; omega)
      rw [h7, cond_true, splice_take _ _ _ (by rw [ints_len]; omega), ints_take, ← hT']
      exact ⟨⟨plain_ints T, trivial⟩, by rw [hTl], rfl⟩
  | succ k ih =>
    intro i j l hl hij hj hT
    refine seg_sem2 (F := ft41) mixed ok41 (fun _ _ _ => canonT_sem) [5] 60 ((head41 n i j t (ints l) _ _).mpr ?_)
    have h1 : (j : Int) < (n : Int) := by omega
    have h2 : (0 : Int) ≤ (j : Int) := by omega
    have h3 : (0 : Int) ≤ (i : Int) := by omega
    have h4 : (i : Int) < (n : Int) := by omega
    have h5 : 0 + (j : Int).toNat * 1 = j := by simp
    have h6 : 0 + (i : Int).toNat * 1 = i := by simp
    have hjl : j < l.length := by omega
    have hil : i < l.length := by omega
    have hw1 : w ((i : Int) + 1) = ((i + 1 : Nat) : Int) := by rw [w_id (by omega) (by omega)]; omega
    have hw2 : w ((j : Int) + 1) = ((j + 1 : Nat) : Int) := by rw [w_id (by omega) (by omega)]; omega
    have hd : l.drop j = l[j] :: l.drop (j + 1) := List.drop_eq_getElem_cons hjl
    simp only [h1, h2, h3, h4, decide_true, cond_true, Bool.and_self, h5, h6, okI_ints hjl, intO_ints hjl, hw1, hw2]
    refine ⟨⟨trivial, trivial, trivial⟩, ?_⟩
    rw [hd] at hT
    cases hc : (l[j] == t) with
    | true =>
      simp only [Bool.not_true, cond_false]
      refine ⟨⟨plain_ints l, trivial⟩, ih i (j + 1) l hl (by omega) (by omega) ?_⟩
      rw [hT, List.filter_cons_of_neg (by simp [hc])]
    | false =>
      have h7 : Nat.ble (i + 1) (ints l).length = true := Nat.ble_eq_true_of_le (by rw [ints_len]; omega)
      simp only [Bool.not_false, cond_true, h7, splice_ints _ hil]
      refine ⟨⟨plain_ints _, trivial⟩, ih (i + 1) (j + 1) (l.set i l[j]) (by rw [List.length_set]; exact hl) (by omega) (by omega) ?_⟩
      rw [hT, List.filter_cons_of_pos (by simp [hc]), List.drop_set_of_lt (by omega)]
      have : (l.set i l[j]).take (i + 1) = l.take i ++ [l[j]] := by
        rw [List.take_succ_eq_append_getElem (by rw [List.length_set]; exact hil), List.take_set_of_le (by omega), List.getElem_set_self]
      rw [this, List.append_assoc]; rfl

theorem idx_none {t : Int} : ∀ {l : List Int} {i : Int}, 0 ≤ i → idxF t l i = -1 → l.filter (fun x => !(x == t)) = l
  | [], _, _, _ => rfl
  | x :: r, i, hi, e => by
    simp only [idxF] at e
    cases hc : (x == t) with
    | true => rw [hc, cond_true] at e; omega
    | false =>
      rw [hc, cond_false] at e
      rw [List.filter_cons_of_pos (by simp [hc]), idx_none (by omega) e]
theorem idx_some {t : Int} : ∀ {l : List Int} {i : Nat}, idxF t l (i : Int) ≠ -1 → ∃ k, idxF t l (i : Int) = ((i + k : Nat) : Int) ∧ k < l.length ∧ l.filter (fun x => !(x == t)) = l.take k ++ (l.drop (k + 1)).filter (fun x => !(x == t))
  | [], _, e => absurd rfl e
  | x :: r, i, e => by
    simp only [idxF] at e ⊢
    cases hc : (x == t) with
    | true => exact ⟨0, by simp, by simp, by rw [List.filter_cons_of_neg (by simp [hc])]; rfl⟩
    | false =>
      rw [hc, cond_false] at e
      have e1 : ((i : Int) + 1) = ((i + 1 : Nat) : Int) := by omega
      rw [e1] at e ⊢
      obtain ⟨k, h1, h2, h3⟩ := idx_some (l := r) (i := i + 1) e
      refine ⟨k + 1, by rw [cond_false, h1]; congr 1; omega, by simpa using h2, ?_⟩
      rw [List.filter_cons_of_pos (by simp [hc]), h3]; rfl

noncomputable def con41 : Con := { f := 41, gh := [], paths := [⟨1, [0], false⟩, ⟨0, [], true⟩], spec := fun args bs => match args, bs with
  | [s, f], [some (.cells [t] true), some (.cells cs true)] => match slN s 1 1, intV t with
    | some n, some t => bif isF1 f 42 0 then some (cs = ints (unI cs) ∧ cs.length = n ∧ n < 1000000000, [SL (G + 1) ((unI cs).filter fun x => !(x == t)).length 1], [(false, some (.cells [I t] true)), (true, some (.cells (ints ((unI cs).filter fun x => !(x == t))) true))]) else none
    | _, _ => none
  | _, _ => none }

theorem con41_ok : con41.ok Try.prog w0 := by
  intro args bs p rs out e hp
  simp only [con41] at e
  split at e <;> first | (simp at e; done) | skip
  split at e <;> first | (simp at e; done) | skip
  rename_i s f t cs _ _ n t' hs ht
  cases hq : isF1 f 42 0 with
  | false => rw [hq] at e; simp at e
  | true =>
    rw [hq] at e
    simp only [cond_true, Option.some.injEq, Prod.mk.injEq] at e
    obtain ⟨rfl, rfl, rfl⟩ := e
    obtain ⟨h1, h2, h3⟩ := hp
    rw [slN_eq hs, intV_eq ht, isF1_eq hq]
    rw [h1] at h2 ⊢
    rw [ints_len] at h2
    generalize unI cs = l at h2 ⊢
    subst h2
    rw [unI_ints]
    refine con_body (f := 41) (args := [SL (G + 1) l.length 1, F42 0]) (bs := [some (.cells [I t'] true), some (.cells (ints l) true)]) (rs := [SL (G + 1) (l.filter fun x => !(x == t')).length 1]) (out := [some (.cells [I t'] true), some (.cells (ints (l.filter fun x => !(x == t'))) true)]) (fn := Try.f41) (cd := Try.f41.body.getD .skip) (nt := nt41) Try.func41 (by kernel_rfl) rfl ?_
    change Agm.Sem Try.prog w0 (Try.prog.globals.size + nm50.flags.length) _ _ _ _ _
    refine seg_sem2 (F := ft41) mixed ok41 (fun _ _ _ => canonT_sem) [5] 60 ((start41 l.length t' (ints l) _ _).mpr ?_)
    rw [unI_ints]
    refine ⟨⟨⟨plain_ints l, trivial⟩, ⟨plain_ints l, trivial⟩, rfl, ints_len l, h3⟩, ?_⟩
    by_cases hi : idxF t' l 0 = -1
    · have hb : (idxF t' l 0 == -1) = true := by simp [hi]
      rw [hb, cond_true, idx_none (by omega) hi, Nat.mul_one, ints_take, List.take_length]
      exact ⟨⟨plain_ints l, trivial⟩, rfl, rfl⟩
    · have hb : (idxF t' l 0 == -1) = false := by simp [hi]
      rw [hb, cond_false]
      refine ⟨⟨plain_ints l, trivial⟩, ?_⟩
      obtain ⟨k, k1, k2, k3⟩ := idx_some (l := l) (i := 0) hi
      have k1' : idxF t' l 0 = ((k : Nat) : Int) := by have := k1; simpa using this
      rw [k1']
      have hw : w ((k : Int) + 1) = ((k + 1 : Nat) : Int) := by rw [w_id (by omega) (by omega)]; omega
      rw [hw]
      exact loop41 t' l.length h3 _ (l.length - (k + 1)) k (k + 1) l rfl (by omega) (by omega) k3
end Go.Proofs.Ytdggbficiakbhaa
