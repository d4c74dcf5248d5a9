/- Entering, leaving, freeing: contracts. No condition. -/
import Derived.Test.YtdggbficiakbhaaHoldN
namespace Go.Proofs.Ytdggbficiakbhaa
open Go.Agm
variable {w0 : World}

theorem okOne {c : Con} (h : c.ok Try.prog w0) : CallsOk Try.prog w0 (callsOf Try.prog.globals.size [c]) := callsOf_ok fun d hd => by
  simp only [List.mem_singleton] at hd
  subst hd
  exact h
theorem okTwo {c d : Con} (h : c.ok Try.prog w0) (k : d.ok Try.prog w0) : CallsOk Try.prog w0 (callsOf Try.prog.globals.size [c, d]) := callsOf_ok fun e he => by
  simp only [List.mem_cons, List.not_mem_nil, or_false] at he
  rcases he with rfl | rfl
  · exact h
  · exact k
theorem plain_nil : pl [] := fun _ h => by simp at h
theorem bel {n : Nat} : ((n == n && true) && true) = true := by simp

theorem con43_ok : con43.ok Try.prog w0 := by
  intro args bs p rs out e hp
  simp only [con43] at e
  split at e <;> first | (simp at e; done) | skip
  split at e <;> first | (simp at e; done) | skip
  rename_i a _ la n m ci ch hb
  cases hq : isPtr a 0 with
  | false => rw [hq] at e; simp at e
  | true =>
    rw [hq] at e
    simp only [cond_true, Option.some.injEq, Prod.mk.injEq] at e
    obtain ⟨rfl, rfl, rfl⟩ := e
    rw [hpHs_eq hb, isPtr_eq hq]
    obtain ⟨h1, h2, h3, h4, h5, h6⟩ := hp
    rw [h1] at h2 ⊢
    rw [h4]
    rw [ints_len] at h2
    generalize unI ci = ins at h2 ⊢
    generalize unP ch = l at h5 ⊢
    subst h2 h5
    refine con_body (f := 43) (fn := Try.f43) (cd := Try.f43.body.getD .skip) (nt := nr43) Try.func43 (by kernel_rfl) rfl ?_
    refine seg_sem2 (F := ft0) (c := callsOf Try.prog.globals.size [con51]) (leaf := fun _ _ _ => False) mixed (okOne con51_ok) (fun _ _ _ h => h.elim) [] 60 ((run43 la ins.length l.length (ints ins) (prs l) _).mpr ?_)
    simp only [kR, kO, unI_ints, unP_prs]
    exact ⟨⟨⟨plain_ints _, plain_prs _, plain_nil, trivial⟩, ⟨plain_ints _, plain_prs _, plain_ints _, trivial⟩, ⟨by rw [unI_ints], ints_len _, by rw [unP_prs], by rw [unP_prs], h6, rfl, rfl, by omega⟩, by omega⟩,
      ⟨plain_ints _, plain_prs _, plain_ints _, trivial⟩, by trivial, rfl⟩

abbrev gone (t : Int) (l : List Int) : List Int := l.filter fun x => !(x == t)
noncomputable def con28 : Con := { f := 28, gh := ghH, paths := pathsH, spec := fun args bs => match args with
  | [p, t] => match hpHs bs, intV t with
    | some (la, n, m, ci, ch), some t => bif isPtr p 0 then some (preH n m ci ch, [SL (G + 3) (freeD (diesB (gone t (unI ci))) (unP ch)).length 1],
        resH la (gone t (unI ci)).length (ints (gone t (unI ci))) (keptD (diesB (gone t (unI ci))) (unP ch)) (freeD (diesB (gone t (unI ci))) (unP ch))) else none
    | _, _ => none
  | _ => none }
theorem con28_ok : con28.ok Try.prog w0 := by
  intro args bs p rs out e hp
  simp only [con28] at e
  split at e <;> first | (simp at e; done) | skip
  split at e <;> first | (simp at e; done) | skip
  rename_i a b _ _ la n m ci ch t hb ht
  cases hq : isPtr a 0 with
  | false => rw [hq] at e; simp at e
  | true =>
    rw [hq] at e
    simp only [cond_true, Option.some.injEq, Prod.mk.injEq] at e
    obtain ⟨rfl, rfl, rfl⟩ := e
    rw [hpHs_eq hb, isPtr_eq hq, intV_eq ht]
    obtain ⟨h1, h2, h3, h4, h5, h6⟩ := hp
    rw [h1] at h2 ⊢
    rw [h4]
    rw [ints_len] at h2
    generalize unI ci = ins at h2 ⊢
    generalize unP ch = l at h5 ⊢
    subst h2 h5
    refine con_body (f := 28) (fn := Try.f28) (cd := Try.f28.body.getD .skip) (nt := nr43) Try.func28 (by kernel_rfl) rfl ?_
    refine seg_sem2 (F := ft0) (c := callsOf Try.prog.globals.size [con43, con41]) (leaf := fun _ _ _ => False) mixed (okTwo con43_ok con41_ok) (fun _ _ _ h => h.elim) [] 60 ((run28 la t ins.length l.length (ints ins) (prs l) _).mpr ?_)
    have hle := List.length_filter_le (fun x => !(x == t)) ins
    simp only [kR, kO, unI_ints, unP_prs]
    exact ⟨⟨⟨plain_ints _, trivial⟩, ⟨plain_ints _, trivial⟩, by trivial, ints_len _, h3⟩,
      ⟨⟨plain_ints _, plain_prs _, trivial⟩, ⟨plain_ints _, plain_prs _, plain_ints _, trivial⟩, ⟨by rw [unI_ints], by rw [ints_len], by omega, by rw [unP_prs], by rw [unP_prs], h6⟩⟩,
      ⟨plain_ints _, plain_prs _, plain_ints _, trivial⟩, by trivial, rfl⟩

noncomputable def resE (la : Int) (n m : Nat) (ci ch : List Value) : List OutB :=
  [(false, some (.cells [I la, SL (G + 3) n 1, SL (G + 2) m 2] true)), (true, none), (true, some (.cells ch true)), (true, some (.cells ci true))]
noncomputable def con29 : Con := { f := 29, gh := ghH, paths := pathsH, spec := fun args bs => match args with
  | [p] => match hpHs bs with
    | some (la, n, m, ci, ch) => bif isPtr p 0 then some (preH n m ci ch, [I (w (la + 1))], resE (w (la + 1)) (n + 1) m (ints (unI ci ++ [w (la + 1)])) ch) else none
    | _ => none
  | _ => none }
theorem con29_ok : con29.ok Try.prog w0 := by
  intro args bs p rs out e hp
  simp only [con29] at e
  split at e <;> first | (simp at e; done) | skip
  split at e <;> first | (simp at e; done) | skip
  rename_i a _ la n m ci ch hb
  cases hq : isPtr a 0 with
  | false => rw [hq] at e; simp at e
  | true =>
    rw [hq] at e
    simp only [cond_true, Option.some.injEq, Prod.mk.injEq] at e
    obtain ⟨rfl, rfl, rfl⟩ := e
    rw [hpHs_eq hb, isPtr_eq hq]
    obtain ⟨h1, h2, h3, h4, h5, h6⟩ := hp
    rw [h1] at h2 ⊢
    rw [h4]
    rw [ints_len] at h2
    generalize unI ci = ins at h2 ⊢
    generalize unP ch = l at h5 ⊢
    subst h2 h5
    refine con_body (f := 29) (fn := Try.f29) (cd := Try.f29.body.getD .skip) (nt := nr29) Try.func29 (by kernel_rfl) rfl ?_
    refine seg_sem2 (F := ft0) (c := callsOf G []) (leaf := fun _ _ _ => False) mixed (callsOf_ok (by simp)) (fun _ _ _ h => h.elim) [] 60 ?_
    have hh := run29 la ins.length l.length (ints ins) (prs l)
    rw [show PT (G + 0) = PT G from rfl, hh]
    have h7 : Nat.ble (0 + ins.length * 1) (ints ins).length = true := Nat.ble_eq_true_of_le (by rw [ints_len]; omega)
    have h8 : ((ints ins).drop 0).take (ins.length * 1) ++ [I (w (la + 1))] = ints (ins ++ [w (la + 1)]) := by
      rw [List.drop_zero, Nat.mul_one, ints_take, List.take_length]
      simp [ints]
    rw [bel, room8 h3, h7, h8, unI_ints]
    exact ⟨⟨plain_prs _, plain_ints _, trivial⟩, rfl, rfl⟩

theorem speaks_run : ∃ h', runK Try.prog tn 200 27 [] (heapB G []) = some ([.bool true], h') := by
  have e : (runK Try.prog tn 200 27 [] (heapB G [])).map (·.1) = some [.bool true] := by kernel_rfl
  rw [Option.map_eq_some_iff] at e
  obtain ⟨⟨rs, h'⟩, e, rfl⟩ := e
  exact ⟨h', e⟩
noncomputable def con27 : Con := { f := 27, gh := [], paths := [], spec := fun args bs => match args, bs with
  | [], [] => some (True, [.bool true], [])
  | _, _ => none }
theorem con27_ok : con27.ok Try.prog w0 := by
  intro args bs p rs out e hp
  simp only [con27] at e
  split at e <;> first | (simp at e; done) | skip
  simp only [Option.some.injEq, Prod.mk.injEq] at e
  obtain ⟨rfl, rfl, rfl⟩ := e
  obtain ⟨hX, hrun⟩ := speaks_run
  refine retT_call (nt := nmOf [] []) (by rw [heapB_next]; rfl) ((call_run mixed tn_prims (run_of hrun)).mono ?_)
  rintro rs h' ⟨rfl, rfl⟩
  exact ⟨trivial, rfl, rfl⟩
end Go.Proofs.Ytdggbficiakbhaa
