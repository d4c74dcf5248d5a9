/- Entering, leaving, freeing: step by step. No condition. -/
import Derived.Test.YtdggbficiakbhaaHoldXb
namespace Go.Proofs.Ytdggbficiakbhaa
open Go.Agm
variable {w0 : World}

/-- Holds: how many have entered, who is inside, what is held. -/
noncomputable def hpH (la : Int) (n m : Nat) (ci ch : List Value) : List (Option ABlk) :=
  [some (.cells [I la, SL (G + 1) n 1, SL (G + 2) m 2] true), some (.cells ci true), some (.cells ch true)]
noncomputable def hoH (la : Int) (n m : Nat) (ci ch co : List Value) : List (Option ABlk) :=
  [some (.cells [I la, SL (G + 1) n 1, SL (G + 2) m 2] true), some (.cells ci true), some (.cells ch true), some (.cells co true)]
abbrev nr43 : Nt := { gh := [], flags := [false, true, true], paths := [⟨0, [], true⟩], tr := [] }
abbrev kR (ci ch : List Value) : List (Int × Int) := keptD (diesB (unI ci)) (unP ch)
abbrev kO (ci ch : List Value) : List Int := freeD (diesB (unI ci)) (unP ch)
theorem run43 (la : Int) (n m : Nat) (ci ch : List Value) (K : List Value → AHeap → Prop) :
    segK2 Try.prog ft0 (semM (callsOf G [con51]) (retT G nr43 K)) Try.f43 [] 60 [.code (Try.f43.body.getD .skip)] (startF Try.f43 [PT G]) (fun _ _ _ => False) (heapB G (hpH la n m ci ch))
    = (((pl ci ∧ pl ch ∧ pl [] ∧ True) ∧ (pl ci ∧ pl (prs (kR ci ch)) ∧ pl (ints (kO ci ch)) ∧ True) ∧ pre51 m n 0 ci ch []) ∧
      (pl ci ∧ pl (prs (kR ci ch)) ∧ pl (ints (kO ci ch)) ∧ True) ∧ K [SL (G + 3) (kO ci ch).length 1] (heapB G (hoH la n (kR ci ch).length ci (prs (kR ci ch)) (ints (kO ci ch))))) := by kernel_rfl

def preH (n m : Nat) (ci ch : List Value) : Prop := ci = ints (unI ci) ∧ ci.length = n ∧ n < 1000000000 ∧ ch = prs (unP ch) ∧ (unP ch).length = m ∧ m < 1000000000
noncomputable def resH (la : Int) (n : Nat) (ci : List Value) (R : List (Int × Int)) (O : List Int) : List OutB :=
  [(false, some (.cells [I la, SL (G + 1) n 1, SL (G + 2) R.length 2] true)), (true, some (.cells ci true)), (true, some (.cells (prs R) true)), (true, some (.cells (ints O) true))]
noncomputable def hpHs (bs : List (Option ABlk)) : Option (Int × Nat × Nat × List Value × List Value) := match bs with
  | [some (.cells [la, si, sh] true), some (.cells ci true), some (.cells ch true)] =>
    match intV la, slN si 1 1, slN sh 2 2 with
    | some la, some n, some m => some (la, n, m, ci, ch)
    | _, _, _ => none
  | _ => none
theorem hpHs_eq {bs : List (Option ABlk)} {la : Int} {n m : Nat} {ci ch : List Value} (e : hpHs bs = some (la, n, m, ci, ch)) : bs = hpH la n m ci ch := by
  unfold hpHs at e
  split at e <;> first | (simp at e; done) | skip
  split at e <;> first | (simp at e; done) | skip
  rename_i la' si sh ci' ch' _ _ _ la2 n' m' h1 h2 h3
  simp only [Option.some.injEq, Prod.mk.injEq] at e
  obtain ⟨rfl, rfl, rfl, rfl, rfl⟩ := e
  rw [intV_eq h1, slN_eq h2, slN_eq h3]
  rfl
abbrev pathsH : List Pth := [⟨0, [], false⟩, ⟨0, [1], true⟩, ⟨0, [2], true⟩]
abbrev ghH : List Gh := [⟨0, some ([], 1), 1⟩, ⟨0, some ([], 2), 2⟩]
noncomputable def con43 : Con := { f := 43, gh := ghH, paths := pathsH, spec := fun args bs => match args with
  | [p] => match hpHs bs with
    | some (la, n, m, ci, ch) => bif isPtr p 0 then some (preH n m ci ch, [SL (G + 3) (kO ci ch).length 1], resH la n ci (kR ci ch) (kO ci ch)) else none
    | _ => none
  | _ => none }

theorem run28 (la t : Int) (n m : Nat) (ci ch : List Value) (K : List Value → AHeap → Prop) :
    segK2 Try.prog ft0 (semM (callsOf G [con43, con41]) (retT G nr43 K)) Try.f28 [] 60 [.code (Try.f28.body.getD .skip)] (startF Try.f28 [PT G, I t]) (fun _ _ _ => False) (heapB G (hpH la n m ci ch))
    = (((pl ci ∧ True) ∧ (pl (ints ((unI ci).filter fun x => !(x == t))) ∧ True) ∧ (ci = ints (unI ci) ∧ ci.length = n ∧ n < 1000000000)) ∧
       ((pl (ints ((unI ci).filter fun x => !(x == t))) ∧ pl ch ∧ True) ∧ (pl (ints ((unI ci).filter fun x => !(x == t))) ∧ pl (prs (kR (ints ((unI ci).filter fun x => !(x == t))) ch)) ∧ pl (ints (kO (ints ((unI ci).filter fun x => !(x == t))) ch)) ∧ True) ∧
          preH ((unI ci).filter fun x => !(x == t)).length m (ints ((unI ci).filter fun x => !(x == t))) ch) ∧
       (pl (ints ((unI ci).filter fun x => !(x == t))) ∧ pl (prs (kR (ints ((unI ci).filter fun x => !(x == t))) ch)) ∧ pl (ints (kO (ints ((unI ci).filter fun x => !(x == t))) ch)) ∧ True) ∧
       K [SL (G + 3) (kO (ints ((unI ci).filter fun x => !(x == t))) ch).length 1] (heapB G (hoH la ((unI ci).filter fun x => !(x == t)).length (kR (ints ((unI ci).filter fun x => !(x == t))) ch).length (ints ((unI ci).filter fun x => !(x == t))) (prs (kR (ints ((unI ci).filter fun x => !(x == t))) ch)) (ints (kO (ints ((unI ci).filter fun x => !(x == t))) ch))))) := by kernel_rfl

noncomputable def hoE (la : Int) (n m : Nat) (ci ch : List Value) : List (Option ABlk) :=
  [some (.cells [I la, SL (G + 3) n 1, SL (G + 2) m 2] true), none, some (.cells ch true), some (.cells ci true)]
abbrev nr29 : Nt := { gh := [], flags := [false, true, true], paths := [⟨1, [1], true⟩], tr := [] }
theorem run29 (la : Int) (n m : Nat) (ci ch : List Value) (K : List Value → AHeap → Prop) :
    segK2 Try.prog ft0 (semM (callsOf G []) (retT G nr29 K)) Try.f29 [] 60 [.code (Try.f29.body.getD .skip)] (startF Try.f29 [PT G]) (fun _ _ _ => False) (heapB G (hpH la n m ci ch))
    = (bif ((n == n && true) && true) then bif room (n + 1) 8 then bif Nat.ble (0 + n * 1) ci.length then
        ((pl ch ∧ pl ((ci.drop 0).take (n * 1) ++ [I (w (la + 1))]) ∧ True) ∧ K [I (w (la + 1))] (heapB G (hoE (w (la + 1)) (n + 1) m ((ci.drop 0).take (n * 1) ++ [I (w (la + 1))]) ch))) else False else False else False) := by kernel_rfl

theorem okOne {c : Con} (h : c.ok Try.prog w0) : CallsOk Try.prog w0 (callsOf Try.prog.globals.size [c]) := callsOf_ok fun d hd => by
  simp only [List.mem_singleton] at hd
  subst hd
  exact h
theorem okTwo {c d : Con} (h : c.ok Try.prog w0) (k : d.ok Try.prog w0) : CallsOk Try.prog w0 (callsOf Try.prog.globals.size [c, d]) := callsOf_ok fun e he => by
  simp only [List.mem_cons, List.not_mem_nil, or_false] at he
  rcases he with rfl | rfl
  · exact h
  · exact k
theorem plain_nil : pl [] := fun _ h => by simp at h
theorem bel {n : Nat} : ((n == n && true) && true) = true := by simp

theorem con43_ok : con43.ok Try.prog w0 := by
  intro args bs p rs out e hp
  simp only [con43] at e
  split at e <;> first | (simp at e; done) | skip
  split at e <;> first | (simp at e; done) | skip
  rename_i a _ la n m ci ch hb
  cases hq : isPtr a 0 with
  | false => rw [hq] at e; simp at e
  | true =>
    rw [hq] at e
    simp only [cond_true, Option.some.injEq, Prod.mk.injEq] at e
    obtain ⟨rfl, rfl, rfl⟩ := e
    rw [hpHs_eq hb, isPtr_eq hq]
    obtain ⟨h1, h2, h3, h4, h5, h6⟩ := hp
    rw [h1] at h2 ⊢
    rw [h4]
    rw [ints_len] at h2
    generalize unI ci = ins at h2 ⊢
    generalize unP ch = l at h5 ⊢
    subst h2 h5
    refine con_body (f := 43) (fn := Try.f43) (cd := Try.f43.body.getD .skip) (nt := nr43) Try.func43 (by kernel_rfl) rfl ?_
    refine seg_sem2 (F := ft0) (c := callsOf Try.prog.globals.size [con51]) (leaf := fun _ _ _ => False) mixed (okOne con51_ok) (fun _ _ _ h => h.elim) [] 60 ((run43 la ins.length l.length (ints ins) (prs l) _).mpr ?_)
    simp only [kR, kO, unI_ints, unP_prs]
    exact ⟨⟨⟨plain_ints _, plain_prs _, plain_nil, trivial⟩, ⟨plain_ints _, plain_prs _, plain_ints _, trivial⟩, ⟨by rw [unI_ints], ints_len _, by rw [unP_prs], by rw [unP_prs], h6, rfl, rfl, by omega⟩, by omega⟩,
      ⟨plain_ints _, plain_prs _, plain_ints _, trivial⟩, by trivial, rfl⟩

abbrev gone (t : Int) (l : List Int) : List Int := l.filter fun x => !(x == t)
noncomputable def con28 : Con := { f := 28, gh := ghH, paths := pathsH, spec := fun args bs => match args with
  | [p, t] => match hpHs bs, intV t with
    | some (la, n, m, ci, ch), some t => bif isPtr p 0 then some (preH n m ci ch, [SL (G + 3) (freeD (diesB (gone t (unI ci))) (unP ch)).length 1],
        resH la (gone t (unI ci)).length (ints (gone t (unI ci))) (keptD (diesB (gone t (unI ci))) (unP ch)) (freeD (diesB (gone t (unI ci))) (unP ch))) else none
    | _, _ => none
  | _ => none }
theorem con28_ok : con28.ok Try.prog w0 := by
  intro args bs p rs out e hp
  simp only [con28] at e
  split at e <;> first | (simp at e; done) | skip
  split at e <;> first | (simp at e; done) | skip
  rename_i a b _ _ la n m ci ch t hb ht
  cases hq : isPtr a 0 with
  | false => rw [hq] at e; simp at e
  | true =>
    rw [hq] at e
    simp only [cond_true, Option.some.injEq, Prod.mk.injEq] at e
    obtain ⟨rfl, rfl, rfl⟩ := e
    rw [hpHs_eq hb, isPtr_eq hq, intV_eq ht]
    obtain ⟨h1, h2, h3, h4, h5, h6⟩ := hp
    rw [h1] at h2 ⊢
    rw [h4]
    rw [ints_len] at h2
    generalize unI ci = ins at h2 ⊢
    generalize unP ch = l at h5 ⊢
    subst h2 h5
    refine con_body (f := 28) (fn := Try.f28) (cd := Try.f28.body.getD .skip) (nt := nr43) Try.func28 (by kernel_rfl) rfl ?_
    refine seg_sem2 (F := ft0) (c := callsOf Try.prog.globals.size [con43, con41]) (leaf := fun _ _ _ => False) mixed (okTwo con43_ok con41_ok) (fun _ _ _ h => h.elim) [] 60 ((run28 la t ins.length l.length (ints ins) (prs l) _).mpr ?_)
    have hle := List.length_filter_le (fun x => !(x == t)) ins
    simp only [kR, kO, unI_ints, unP_prs]
    exact ⟨⟨⟨plain_ints _, trivial⟩, ⟨plain_ints _, trivial⟩, by trivial, ints_len _, h3⟩,
      ⟨⟨plain_ints _, plain_prs _, trivial⟩, ⟨plain_ints _, plain_prs _, plain_ints _, trivial⟩, ⟨by rw [unI_ints], by rw [ints_len], by omega, by rw [unP_prs], by rw [unP_prs], h6⟩⟩,
      ⟨plain_ints _, plain_prs _, plain_ints _, trivial⟩, by trivial, rfl⟩

noncomputable def resE (la : Int) (n m : Nat) (ci ch : List Value) : List OutB :=
  [(false, some (.cells [I la, SL (G + 3) n 1, SL (G + 2) m 2] true)), (true, none), (true, some (.cells ch true)), (true, some (.cells ci true))]
noncomputable def con29 : Con := { f := 29, gh := ghH, paths := pathsH, spec := fun args bs => match args with
  | [p] => match hpHs bs with
    | some (la, n, m, ci, ch) => bif isPtr p 0 then some (preH n m ci ch, [I (w (la + 1))], resE (w (la + 1)) (n + 1) m (ints (unI ci ++ [w (la + 1)])) ch) else none
    | _ => none
  | _ => none }
theorem con29_ok : con29.ok Try.prog w0 := by
  intro args bs p rs out e hp
  simp only [con29] at e
  split at e <;> first | (simp at e; done) | skip
  split at e <;> first | (simp at e; done) | skip
  rename_i a _ la n m ci ch hb
  cases hq : isPtr a 0 with
  | false => rw [hq] at e; simp at e
  | true =>
    rw [hq] at e
    simp only [cond_true, Option.some.injEq, Prod.mk.injEq] at e
    obtain ⟨rfl, rfl, rfl⟩ := e
    rw [hpHs_eq hb, isPtr_eq hq]
    obtain ⟨h1, h2, h3, h4, h5, h6⟩ := hp
    rw [h1] at h2 ⊢
    rw [h4]
    rw [ints_len] at h2
    generalize unI ci = ins at h2 ⊢
    generalize unP ch = l at h5 ⊢
    subst h2 h5
    refine con_body (f := 29) (fn := Try.f29) (cd := Try.f29.body.getD .skip) (nt := nr29) Try.func29 (by kernel_rfl) rfl ?_
    refine seg_sem2 (F := ft0) (c := callsOf G []) (leaf := fun _ _ _ => False) mixed (callsOf_ok (by simp)) (fun _ _ _ h => h.elim) [] 60 ?_
    have hh := run29 la ins.length l.length (ints ins) (prs l)
    rw [show PT (G + 0) = PT G from rfl, hh]
    have h7 : Nat.ble (0 + ins.length * 1) (ints ins).length = true := Nat.ble_eq_true_of_le (by rw [ints_len]; omega)
    have h8 : ((ints ins).drop 0).take (ins.length * 1) ++ [I (w (la + 1))] = ints (ins ++ [w (la + 1)]) := by
      rw [List.drop_zero, Nat.mul_one, ints_take, List.take_length]
      simp [ints]
    rw [bel, room8 h3, h7, h8, unI_ints]
    exact ⟨⟨plain_prs _, plain_ints _, trivial⟩, rfl, rfl⟩

theorem speaks_run : ∃ h', runK Try.prog tn 200 27 [] (heapB G []) = some ([.bool true], h') := by
  have e : (runK Try.prog tn 200 27 [] (heapB G [])).map (·.1) = some [.bool true] := by kernel_rfl
  rw [Option.map_eq_some_iff] at e
  obtain ⟨⟨rs, h'⟩, e, rfl⟩ := e
  exact ⟨h', e⟩
noncomputable def con27 : Con := { f := 27, gh := [], paths := [], spec := fun args bs => match args, bs with
  | [], [] => some (True, [.bool true], [])
  | _, _ => none }
theorem con27_ok : con27.ok Try.prog w0 := by
  intro args bs p rs out e hp
  simp only [con27] at e
  split at e <;> first | (simp at e; done) | skip
  simp only [Option.some.injEq, Prod.mk.injEq] at e
  obtain ⟨rfl, rfl, rfl⟩ := e
  obtain ⟨hX, hrun⟩ := speaks_run
  refine retT_call (nt := nmOf [] []) (by rw [heapB_next]; rfl) ((call_run mixed tn_prims (run_of hrun)).mono ?_)
  rintro rs h' ⟨rfl, rfl⟩
  exact ⟨trivial, rfl, rfl⟩

/-! Drop. -/
def ft31 : FT := { loc := fun _ => false, mask := fun id => bif Nat.beq id 4 then live 33 [0, 9, 10, 11] else [] }
noncomputable def hpD (la : Int) (n m : Nat) (ci ch cl : List Value) (rw : Bool) : List (Option ABlk) :=
  [some (.cells [I la, SL (G + 1) n 1, SL (G + 2) m 2] true), some (.cells ci true), some (.cells ch true), some (.cells cl rw)]
noncomputable def hlD (la : Int) (n m : Nat) (ci ch cl : List Value) (rw : Bool) : List (Option ABlk) :=
  [some (.cells [I la, SL (G + 1) n 1, SL (G + 4) m 2] true), some (.cells ci true), none, some (.cells cl rw), some (.cells ch true)]
noncomputable def hoD (la : Int) (n m : Nat) (ci ch cl co : List Value) (rw : Bool) : List (Option ABlk) :=
  [some (.cells [I la, SL (G + 1) n 1, SL (G + 4) m 2] true), some (.cells ci true), none, some (.cells cl rw), some (.cells ch true), some (.cells co true)]
abbrev nt31 : Nt := { gh := [], flags := [false, true, true, true], paths := [⟨33, [2], true⟩], tr := [] }
abbrev nr31 : Nt := { gh := [], flags := [false, true, true, true], paths := [⟨1, [2], true⟩, ⟨0, [], true⟩], tr := [] }
noncomputable def fr31 (q : Nat) (i : Int) : List AV := frm 33 [(0, .v (PT G)), (9, .v (SL (G + 3) q 1)), (10, .v (I q)), (11, .v (I i))]
noncomputable def todo31 : List Item := todoAt Try.f31 ft31 4 (startF Try.f31 [PT G, SL (G + 3) 0 1]) (heapB G (hpD 0 0 0 [] [] [] true))
abbrev plr (cs : List Value) (rw : Bool) : Prop := plainB (.cells cs rw)
theorem start31 (la : Int) (q n m : Nat) (ci ch cl : List Value) (rw : Bool) (Q : Post) (L : List Item → List AV → AHeap → Prop) :
    segK2 Try.prog ft31 (semM (callsOf G [con43]) Q) Try.f31 [4] 60 [.code (Try.f31.body.getD .skip)] (startF Try.f31 [PT G, SL (G + 3) q 1]) (fun t fr h => canonT G nt31 (L t) fr h) (heapB G (hpD la n m ci ch cl rw))
    = ((pl ci ∧ pl ch ∧ plr cl rw ∧ pl ch ∧ True) ∧ L todo31 (fr31 q 0) (heapB G (hlD la n m ci ch cl rw))) := by kernel_rfl
abbrev xD (cl : List Value) (i : Int) : Int := intO (nth cl (0 + i.toNat * 1))
abbrev chD (m : Nat) (ch cl : List Value) (la i : Int) : List Value := (ch.drop 0).take (m * 2) ++ [I (xD cl i), I la]
theorem head31 (la : Int) (q n m : Nat) (ci ch cl : List Value) (rw : Bool) (i : Int) (K : List Value → AHeap → Prop) (L : List Item → List AV → AHeap → Prop) :
    segK2 Try.prog ft31 (semM (callsOf G [con43]) (retT G nr31 K)) Try.f31 [4] 60 todo31 (fr31 q i) (fun t fr h => canonT G nt31 (L t) fr h) (heapB G (hlD la n m ci ch cl rw))
    = (bif decide (i < q) then bif decide (0 ≤ i) && decide (i < q) then bif okI .i64 (nth cl (0 + i.toNat * 1)) then
         (bif ((m == m && true) && true) then bif room (m + 1) 16 then bif Nat.ble (0 + m * 2) ch.length then
            ((pl ci ∧ plr cl rw ∧ pl (chD m ch cl la i) ∧ True) ∧ L todo31 (fr31 q (w (i + 1))) (heapB G (hlD la n (m + 1) ci (chD m ch cl la i) cl rw)))
          else False else False else False) else False else False
       else ((((pl ci ∧ pl ch ∧ True) ∧ (pl ci ∧ pl (prs (kR ci ch)) ∧ pl (ints (kO ci ch)) ∧ True) ∧ preH n m ci ch) ∧
          (pl ci ∧ plr cl rw ∧ pl (prs (kR ci ch)) ∧ pl (ints (kO ci ch)) ∧ True) ∧
          K [SL (G + 5) (kO ci ch).length 1] (heapB G (hoD la n (kR ci ch).length ci (prs (kR ci ch)) cl (ints (kO ci ch)) rw))))) := by kernel_rfl

/-! Held. -/
def ft32 : FT := { loc := fun _ => false, mask := fun id => bif Nat.beq id 5 then live 24 [3, 11, 12, 13] else [] }
abbrev nt32 : Nt := { gh := [⟨3, none, 1⟩], flags := [false, true, true], paths := [⟨3, [], true⟩], tr := [] }
abbrev nr32 : Nt := { gh := [], flags := [false, true, true], paths := [⟨0, [], true⟩], tr := [] }
noncomputable def fr32 (m k : Nat) (i : Int) : List AV := frm 24 [(3, .v (SL (G + 3) k 1)), (11, .v (SL (G + 2) m 2)), (12, .v (I m)), (13, .v (I i))]
noncomputable def todo32 : List Item := todoAt Try.f32 ft32 5 (startF Try.f32 [PT G]) (heapB G (hpH 0 0 0 [] []))
theorem start32 (la : Int) (n m : Nat) (ci ch : List Value) (Q : Post) (L : List Item → List AV → AHeap → Prop) :
    segK2 Try.prog ft32 (semM (callsOf G []) Q) Try.f32 [5] 60 [.code (Try.f32.body.getD .skip)] (startF Try.f32 [PT G]) (fun t fr h => canonT G nt32 (L t) fr h) (heapB G (hpH la n m ci ch))
    = ((pl ci ∧ pl ch ∧ pl [] ∧ True) ∧ L todo32 (fr32 m 0 0) (heapB G (hoH la n m ci ch []))) := by kernel_rfl
theorem head32 (la : Int) (n m k : Nat) (ci ch co : List Value) (i : Int) (K : List Value → AHeap → Prop) (L : List Item → List AV → AHeap → Prop) :
    segK2 Try.prog ft32 (semM (callsOf G []) (retT G nr32 K)) Try.f32 [5] 60 todo32 (fr32 m k i) (fun t fr h => canonT G nt32 (L t) fr h) (heapB G (hoH la n m ci ch co))
    = (bif decide (i < m) then bif decide (0 ≤ i) && decide (i < m) then bif el ch i then bif room (k + 1) 8 then bif Nat.ble (0 + k * 1) co.length then
         ((pl ci ∧ pl ch ∧ pl ((co.drop 0).take (k * 1) ++ [I (eX ch i)]) ∧ True) ∧ L todo32 (fr32 m (k + 1) (w (i + 1))) (heapB G (hoH la n m ci ch ((co.drop 0).take (k * 1) ++ [I (eX ch i)]))))
         else False else False else False else False
       else ((pl ci ∧ pl ch ∧ pl co ∧ True) ∧ K [SL (G + 3) k 1] (heapB G (hoH la n m ci ch co)))) := by kernel_rfl

/-! same. -/
def ft30 : FT := { loc := fun _ => false, mask := fun id => bif Nat.beq id 4 then live 26 [0, 1, 5] else [] }
noncomputable def hpS (ca cb : List Value) (ra rb : Bool) : List (Option ABlk) := [some (.cells ca ra), some (.cells cb rb)]
abbrev nt30 : Nt := { gh := [], flags := [true, true], paths := [], tr := [] }
noncomputable def fr30 (p q : Nat) (i : Int) : List AV := frm 26 [(0, .v (SL G p 1)), (1, .v (SL (G + 1) q 1)), (5, .v (I i))]
noncomputable def todo30 : List Item := todoAt Try.f30 ft30 4 (startF Try.f30 [SL G 0 1, SL (G + 1) 0 1]) (heapB G (hpS [] [] true true))
theorem start30 (p q : Nat) (ca cb : List Value) (ra rb : Bool) (K : List Value → AHeap → Prop) (L : List Item → List AV → AHeap → Prop) :
    segK2 Try.prog ft30 (semM (callsOf G []) (retT G nt30 K)) Try.f30 [4] 60 [.code (Try.f30.body.getD .skip)] (startF Try.f30 [SL G p 1, SL (G + 1) q 1]) (fun t fr h => canonT G nt30 (L t) fr h) (heapB G (hpS ca cb ra rb))
    = (bif !((p : Int) == (q : Int)) then ((plr ca ra ∧ plr cb rb ∧ True) ∧ K [.bool false] (heapB G (hpS ca cb ra rb)))
       else ((plr ca ra ∧ plr cb rb ∧ True) ∧ L todo30 (fr30 p q 0) (heapB G (hpS ca cb ra rb)))) := by kernel_rfl
theorem head30 (p q : Nat) (ca cb : List Value) (ra rb : Bool) (i : Int) (K : List Value → AHeap → Prop) (L : List Item → List AV → AHeap → Prop) :
    segK2 Try.prog ft30 (semM (callsOf G []) (retT G nt30 K)) Try.f30 [4] 60 todo30 (fr30 p q i) (fun t fr h => canonT G nt30 (L t) fr h) (heapB G (hpS ca cb ra rb))
    = (bif decide (i < q) then bif decide (0 ≤ i) && decide (i < p) then bif okI .i64 (nth ca (0 + i.toNat * 1)) then bif decide (0 ≤ i) && decide (i < q) then bif okI .i64 (nth cb (0 + i.toNat * 1)) then
         (bif !(intO (nth ca (0 + i.toNat * 1)) == intO (nth cb (0 + i.toNat * 1))) then ((plr ca ra ∧ plr cb rb ∧ True) ∧ K [.bool false] (heapB G (hpS ca cb ra rb)))
          else ((plr ca ra ∧ plr cb rb ∧ True) ∧ L todo30 (fr30 p q (w (i + 1))) (heapB G (hpS ca cb ra rb))))
         else False else False else False else False
       else ((plr ca ra ∧ plr cb rb ∧ True) ∧ K [.bool true] (heapB G (hpS ca cb ra rb)))) := by kernel_rfl

theorem okNil : CallsOk Try.prog w0 (callsOf G []) := callsOf_ok (by simp)
theorem room16 {k : Nat} (h : k < 1000000000) : room (k + 1) 16 = true := Nat.ble_eq_true_of_le (by omega)

/-! Drop. -/
def dropD (la : Int) (xs : List Int) : List (Int × Int) := xs.map fun x => (x, la)
theorem loop31 (la : Int) (n : Nat) (ins : List Int) (hins : ins.length = n) (hn : n < 1000000000) (xs : List Int) (rw : Bool) (l0 : List (Int × Int)) (hb : (l0 ++ dropD la xs).length < 1000000000) : ∀ (k i : Nat) (l : List (Int × Int)), i + k = xs.length → l ++ dropD la (xs.drop i) = l0 ++ dropD la xs →
    Agm.Sem Try.prog w0 (Try.prog.globals.size + nt31.flags.length) Try.f31 (retT Try.prog.globals.size nr31 fun rs' h' => rs' = [SL (G + 5) (freeD (diesB ins) (l0 ++ dropD la xs)).length 1] ∧
        h' = heapB G (hoD la n (keptD (diesB ins) (l0 ++ dropD la xs)).length (ints ins) (prs (keptD (diesB ins) (l0 ++ dropD la xs))) (ints xs) (ints (freeD (diesB ins) (l0 ++ dropD la xs))) rw))
      todo31 (fr31 xs.length (i : Int)) (heapB G (hlD la n l.length (ints ins) (prs l) (ints xs) rw)) := by
  intro k
  have hpx : plr (ints xs) rw := plain_ints xs
  induction k with
  | zero =>
    intro i l hi hl
    rw [List.drop_eq_nil_of_le (by omega)] at hl
    have hl' : l = l0 ++ dropD la xs := by rw [← hl]; simp [dropD]
    subst hl'
    refine seg_sem2 (F := ft31) (c := callsOf Try.prog.globals.size [con43]) mixed (okOne con43_ok) (fun _ _ _ => canonT_sem) [4] 60 ?_
    have hh := head31 la xs.length n (l0 ++ dropD la xs).length (ints ins) (prs (l0 ++ dropD la xs)) (ints xs) rw i
    rw [hh]
    have h1 : ¬ ((i : Int) < (xs.length : Int)) := by omega
    simp only [h1, decide_false, cond_false, kR, kO, unI_ints, unP_prs]
    exact ⟨⟨⟨plain_ints _, plain_prs _, trivial⟩, ⟨plain_ints _, plain_prs _, plain_ints _, trivial⟩, ⟨by rw [unI_ints], by rw [ints_len]; exact hins, hn, by rw [unP_prs], by rw [unP_prs], hb⟩⟩, ⟨plain_ints _, hpx, plain_prs _, plain_ints _, trivial⟩, by trivial, by trivial⟩
  | succ k ih =>
    intro i l hi hl
    refine seg_sem2 (F := ft31) (c := callsOf Try.prog.globals.size [con43]) mixed (okOne con43_ok) (fun _ _ _ => canonT_sem) [4] 60 ?_
    have hh := head31 la xs.length n l.length (ints ins) (prs l) (ints xs) rw i
    rw [hh]
    have h1 : (i : Int) < (xs.length : Int) := by omega
    have h2 : (0 : Int) ≤ (i : Int) := by omega
    have hlt : i < xs.length := by omega
    have h3 : 0 + (i : Int).toNat * 1 = i := by simp
    have hd : xs.drop i = xs[i] :: xs.drop (i + 1) := List.drop_eq_getElem_cons hlt
    have hw : w ((i : Int) + 1) = ((i + 1 : Nat) : Int) := by rw [w_id (by rw [List.length_append] at hb; simp [dropD] at hb; omega) (by rw [List.length_append] at hb; simp [dropD] at hb; omega)]; omega
    have hlb : l.length < 1000000000 := by rw [← hl, List.length_append] at hb; omega
    have h5 : Nat.ble (0 + l.length * 2) (prs l).length = true := Nat.ble_eq_true_of_le (by rw [prs_len]; omega)
    have h6 : chD l.length (prs l) (ints xs) la (i : Int) = prs (l ++ [(xs[i], la)]) := by
      simp only [chD, xD, h3, intO_ints hlt, List.drop_zero]
      rw [prs_take, List.take_length, prs_append]; rfl
    simp only [h1, h2, decide_true, cond_true, Bool.and_self, h3, okI_ints hlt, beq_self_eq_true, room16 hlb, h5, h6, hw]
    have h7 : l.length + 1 = (l ++ [(xs[i], la)]).length := by simp
    rw [h7]
    refine ⟨⟨plain_ints _, hpx, plain_prs _, trivial⟩, ih (i + 1) _ (by omega) ?_⟩
    rw [hd] at hl
    rw [← hl, List.append_assoc]; rfl

noncomputable def hpDs (bs : List (Option ABlk)) : Option (Int × Nat × Nat × List Value × List Value × List Value × Bool) := match bs with
  | [some (.cells [la, si, sh] true), some (.cells ci true), some (.cells ch true), some (.cells cl rw)] =>
    match intV la, slN si 1 1, slN sh 2 2 with
    | some la, some n, some m => some (la, n, m, ci, ch, cl, rw)
    | _, _, _ => none
  | _ => none
theorem hpDs_eq {bs : List (Option ABlk)} {la : Int} {n m : Nat} {ci ch cl : List Value} {rw : Bool} (e : hpDs bs = some (la, n, m, ci, ch, cl, rw)) : bs = hpD la n m ci ch cl rw := by
  unfold hpDs at e
  split at e <;> first | (simp at e; done) | skip
  split at e <;> first | (simp at e; done) | skip
  rename_i la' si sh ci' ch' cl' rw' _ _ _ la2 n' m' h1 h2 h3
  simp only [Option.some.injEq, Prod.mk.injEq] at e
  obtain ⟨rfl, rfl, rfl, rfl, rfl, rfl, rfl⟩ := e
  rw [intV_eq h1, slN_eq h2, slN_eq h3]
  rfl
noncomputable def resD (la : Int) (n : Nat) (ci : List Value) (cl : List Value) (rw : Bool) (R : List (Int × Int)) (O : List Int) : List OutB :=
  [(false, some (.cells [I la, SL (G + 1) n 1, SL (G + 4) R.length 2] true)), (true, some (.cells ci true)), (true, none), (true, some (.cells cl rw)), (true, some (.cells (prs R) true)), (true, some (.cells (ints O) true))]
def preD (q n m : Nat) (ci ch cl : List Value) : Prop := preH n m ci ch ∧ cl = ints (unI cl) ∧ cl.length = q ∧ m + q < 1000000000
abbrev all31 (la : Int) (ch cl : List Value) : List (Int × Int) := unP ch ++ dropD la (unI cl)
noncomputable def con31 : Con := { f := 31, gh := ghH ++ [⟨1, none, 1⟩], paths := pathsH ++ [⟨1, [], true⟩], spec := fun args bs => match args with
  | [p, s] => match hpDs bs, slN s 3 1 with
    | some (la, n, m, ci, ch, cl, rw), some q => bif isPtr p 0 then some (preD q n m ci ch cl, [SL (G + 5) (freeD (diesB (unI ci)) (all31 la ch cl)).length 1],
        resD la n ci cl rw (keptD (diesB (unI ci)) (all31 la ch cl)) (freeD (diesB (unI ci)) (all31 la ch cl))) else none
    | _, _ => none
  | _ => none }
theorem con31_ok : con31.ok Try.prog w0 := by
  intro args bs p rs out e hp
  simp only [con31] at e
  split at e <;> first | (simp at e; done) | skip
  split at e <;> first | (simp at e; done) | skip
  rename_i a s _ _ la n m ci ch cl rw q hb hs
  cases hq : isPtr a 0 with
  | false => rw [hq] at e; simp at e
  | true =>
    rw [hq] at e
    simp only [cond_true, Option.some.injEq, Prod.mk.injEq] at e
    obtain ⟨rfl, rfl, rfl⟩ := e
    rw [hpDs_eq hb, isPtr_eq hq, slN_eq hs]
    obtain ⟨⟨h1, h2, h3, h4, h5, h6⟩, h7, h8, h9⟩ := hp
    rw [h1] at h2 ⊢
    rw [h7] at h8 ⊢
    rw [h4]
    rw [ints_len] at h2 h8
    simp only [all31]
    generalize unI ci = ins at h2 ⊢
    generalize unI cl = xs at h8 ⊢
    generalize unP ch = l at h5 ⊢
    subst h2 h5 h8
    rw [unI_ints, unI_ints, unP_prs]
    refine con_body (f := 31) (fn := Try.f31) (cd := Try.f31.body.getD .skip) (nt := nr31) Try.func31 (by kernel_rfl) rfl ?_
    change Agm.Sem Try.prog w0 (Try.prog.globals.size + nt31.flags.length) _ _ _ _ _
    refine seg_sem2 (F := ft31) (c := callsOf Try.prog.globals.size [con43]) mixed (okOne con43_ok) (fun _ _ _ => canonT_sem) [4] 60 ?_
    have hh := start31 la xs.length ins.length l.length (ints ins) (prs l) (ints xs) rw
    rw [show PT (G + 0) = PT G from rfl, hh]
    exact ⟨⟨plain_ints _, plain_prs _, plain_ints xs, plain_prs _, trivial⟩, loop31 la ins.length ins rfl h3 xs rw l (by simp [dropD]; omega) xs.length 0 l (by omega) rfl⟩

/-! Held. -/
theorem loop32 (la : Int) (n : Nat) (ci : List Value) (hci : pl ci) (l : List (Int × Int)) (hl : l.length < 1000000000) : ∀ (k i : Nat) (o : List Int), i + k = l.length → o = (l.take i).map (·.1) →
    Agm.Sem Try.prog w0 (Try.prog.globals.size + nt32.flags.length) Try.f32 (retT Try.prog.globals.size nr32 fun rs' h' => rs' = [SL (G + 3) l.length 1] ∧ h' = heapB G (hoH la n l.length ci (prs l) (ints (l.map (·.1)))))
      todo32 (fr32 l.length o.length (i : Int)) (heapB G (hoH la n l.length ci (prs l) (ints o))) := by
  intro k
  induction k with
  | zero =>
    intro i o hi ho
    rw [List.take_of_length_le (by omega)] at ho
    subst ho
    refine seg_sem2 (F := ft32) (c := callsOf G []) mixed okNil (fun _ _ _ => canonT_sem) [5] 60 ?_
    have hh := head32 la n l.length (l.map (·.1)).length ci (prs l) (ints (l.map (·.1))) i
    rw [hh]
    have h1 : ¬ ((i : Int) < (l.length : Int)) := by omega
    simp only [h1, decide_false, cond_false]
    exact ⟨⟨hci, plain_prs _, plain_ints _, trivial⟩, by simp, by trivial⟩
  | succ k ih =>
    intro i o hi ho
    refine seg_sem2 (F := ft32) (c := callsOf G []) mixed okNil (fun _ _ _ => canonT_sem) [5] 60 ?_
    have hh := head32 la n l.length o.length ci (prs l) (ints o) i
    rw [hh]
    have h1 : (i : Int) < (l.length : Int) := by omega
    have h2 : (0 : Int) ≤ (i : Int) := by omega
    have hlt : i < l.length := by omega
    obtain ⟨e1, e2, _⟩ := el_prs hlt
    have hw : w ((i : Int) + 1) = ((i + 1 : Nat) : Int) := by rw [w_id (by omega) (by omega)]; omega
    have hol : o.length < 1000000000 := by rw [ho, List.length_map, List.length_take]; omega
    have h5 : Nat.ble (0 + o.length * 1) (ints o).length = true := Nat.ble_eq_true_of_le (by rw [ints_len]; omega)
    have h6 : ((ints o).drop 0).take (o.length * 1) ++ [I l[i].1] = ints (o ++ [l[i].1]) := by
      rw [List.drop_zero, Nat.mul_one, ints_take, List.take_length]; simp [ints]
    have h7 : o.length + 1 = (o ++ [l[i].1]).length := by simp
    simp only [h1, h2, decide_true, cond_true, Bool.and_self, e1, e2, room8 hol, h5, hw]
    rw [h6, h7]
    refine ⟨⟨hci, plain_prs _, plain_ints _, trivial⟩, ih (i + 1) _ (by omega) ?_⟩
    rw [ho, List.take_succ_eq_append_getElem hlt, List.map_append]; rfl

noncomputable def con32 : Con := { f := 32, gh := ghH, paths := pathsH, spec := fun args bs => match args with
  | [p] => match hpHs bs with
    | some (la, n, m, ci, ch) => bif isPtr p 0 then some (PlainL ci ∧ ch = prs (unP ch) ∧ (unP ch).length = m ∧ m < 1000000000, [SL (G + 3) m 1],
      [(false, some (.cells [I la, SL (G + 1) n 1, SL (G + 2) m 2] true)), (true, some (.cells ci true)), (true, some (.cells ch true)), (true, some (.cells (ints ((unP ch).map (·.1))) true))]) else none
    | _ => none
  | _ => none }
theorem con32_ok : con32.ok Try.prog w0 := by
  intro args bs p rs out e hp
  simp only [con32] at e
  split at e <;> first | (simp at e; done) | skip
  split at e <;> first | (simp at e; done) | skip
  rename_i a _ la n m ci ch hb
  cases hq : isPtr a 0 with
  | false => rw [hq] at e; simp at e
  | true =>
    rw [hq] at e
    simp only [cond_true, Option.some.injEq, Prod.mk.injEq] at e
    obtain ⟨rfl, rfl, rfl⟩ := e
    rw [hpHs_eq hb, isPtr_eq hq]
    obtain ⟨h1, h4, h5, h6⟩ := hp
    rw [h4]
    generalize unP ch = l at h5 ⊢
    subst h5
    rw [unP_prs]
    refine con_body (f := 32) (fn := Try.f32) (cd := Try.f32.body.getD .skip) (nt := nr32) Try.func32 (by kernel_rfl) rfl ?_
    change Agm.Sem Try.prog w0 (Try.prog.globals.size + nt32.flags.length) _ _ _ _ _
    refine seg_sem2 (F := ft32) (c := callsOf G []) mixed okNil (fun _ _ _ => canonT_sem) [5] 60 ?_
    have hh := start32 la n l.length ci (prs l)
    rw [show PT (G + 0) = PT G from rfl, hh]
    exact ⟨⟨h1, plain_prs _, plain_nil, trivial⟩, loop32 la n ci h1 l h6 l.length 0 [] (by omega) rfl⟩

/-! same. -/
theorem loop30 (a b : List Int) (ra rb : Bool) (hab : a.length = b.length) (hb : b.length < 1000000000) (r : Bool) : ∀ (k i : Nat), i + k = b.length → r = (a.drop i == b.drop i) →
    Agm.Sem Try.prog w0 (Try.prog.globals.size + nt30.flags.length) Try.f30 (retT Try.prog.globals.size nt30 fun rs' h' => rs' = [.bool r] ∧ h' = heapB G (hpS (ints a) (ints b) ra rb))
      todo30 (fr30 a.length b.length (i : Int)) (heapB G (hpS (ints a) (ints b) ra rb)) := by
  have pa : plr (ints a) ra := plain_ints a
  have pb : plr (ints b) rb := plain_ints b
  intro k
  induction k with
  | zero =>
    intro i hi hr
    refine seg_sem2 (F := ft30) (c := callsOf G []) mixed okNil (fun _ _ _ => canonT_sem) [4] 60 ?_
    have hh := head30 a.length b.length (ints a) (ints b) ra rb i
    rw [hh]
    have h1 : ¬ ((i : Int) < (b.length : Int)) := by omega
    simp only [h1, decide_false, cond_false]
    rw [List.drop_eq_nil_of_le (by omega), List.drop_eq_nil_of_le (by omega)] at hr
    exact ⟨⟨pa, pb, trivial⟩, by rw [hr]; rfl, by trivial⟩
  | succ k ih =>
    intro i hi hr
    refine seg_sem2 (F := ft30) (c := callsOf G []) mixed okNil (fun _ _ _ => canonT_sem) [4] 60 ?_
    have hh := head30 a.length b.length (ints a) (ints b) ra rb i
    rw [hh]
    have h1 : (i : Int) < (b.length : Int) := by omega
    have h1a : (i : Int) < (a.length : Int) := by omega
    have h2 : (0 : Int) ≤ (i : Int) := by omega
    have hlt : i < b.length := by omega
    have hlta : i < a.length := by omega
    have h3 : 0 + (i : Int).toNat * 1 = i := by simp
    have hw : w ((i : Int) + 1) = ((i + 1 : Nat) : Int) := by rw [w_id (by omega) (by omega)]; omega
    have hda : a.drop i = a[i] :: a.drop (i + 1) := List.drop_eq_getElem_cons hlta
    have hdb : b.drop i = b[i] :: b.drop (i + 1) := List.drop_eq_getElem_cons hlt
    rw [hda, hdb, List.cons_beq_cons] at hr
    simp only [h1, h1a, h2, decide_true, cond_true, Bool.and_self, h3, okI_ints hlta, okI_ints hlt, intO_ints hlta, intO_ints hlt, hw]
    cases hc : (a[i] == b[i]) with
    | false =>
      rw [hc] at hr
      simp only [Bool.not_false, cond_true]
      exact ⟨⟨pa, pb, trivial⟩, by rw [hr]; rfl, by trivial⟩
    | true =>
      rw [hc, Bool.true_and] at hr
      simp only [Bool.not_true, cond_false]
      exact ⟨⟨pa, pb, trivial⟩, ih (i + 1) (by omega) hr⟩

noncomputable def con30 : Con := { f := 30, gh := [⟨0, none, 1⟩, ⟨1, none, 1⟩], paths := [⟨0, [], true⟩, ⟨1, [], true⟩], spec := fun args bs => match args, bs with
  | [s, t], [some (.cells ca ra), some (.cells cb rb)] => match slN s 0 1, slN t 1 1 with
    | some p, some q => some (ca = ints (unI ca) ∧ ca.length = p ∧ cb = ints (unI cb) ∧ cb.length = q ∧ q < 1000000000, [.bool (unI ca == unI cb)], [(true, some (.cells ca ra)), (true, some (.cells cb rb))])
    | _, _ => none
  | _, _ => none }
theorem con30_ok : con30.ok Try.prog w0 := by
  intro args bs p rs out e hp
  simp only [con30] at e
  split at e <;> first | (simp at e; done) | skip
  split at e <;> first | (simp at e; done) | skip
  rename_i s t ca ra cb rb _ _ p' q hs ht
  simp only [Option.some.injEq, Prod.mk.injEq] at e
  obtain ⟨rfl, rfl, rfl⟩ := e
  rw [slN_eq hs, slN_eq ht]
  obtain ⟨h1, h2, h3, h4, h5⟩ := hp
  rw [h1] at h2 ⊢
  rw [h3] at h4 ⊢
  rw [ints_len] at h2 h4
  generalize unI ca = a at h2 ⊢
  generalize unI cb = b at h4 ⊢
  subst h2 h4
  rw [unI_ints, unI_ints]
  refine con_body (f := 30) (fn := Try.f30) (cd := Try.f30.body.getD .skip) (nt := nt30) Try.func30 (by kernel_rfl) rfl ?_
  refine seg_sem2 (F := ft30) (c := callsOf G []) mixed okNil (fun _ _ _ => canonT_sem) [4] 60 ?_
  have hh := start30 a.length b.length (ints a) (ints b) ra rb
  rw [show SL (G + 0) a.length 1 = SL G a.length 1 from rfl, show ([some (.cells (ints a) ra), some (.cells (ints b) rb)] : List (Option ABlk)) = hpS (ints a) (ints b) ra rb from rfl, hh]
  have pa : plr (ints a) ra := plain_ints a
  have pb : plr (ints b) rb := plain_ints b
  by_cases hab : a.length = b.length
  · have hb : ((a.length : Int) == (b.length : Int)) = true := by simp [hab]
    rw [hb]
    exact ⟨⟨pa, pb, trivial⟩, loop30 a b ra rb hab h5 _ b.length 0 (by omega) rfl⟩
  · have hb : ((a.length : Int) == (b.length : Int)) = false := by simp; omega
    have hne : (a == b) = false := by
      rw [beq_eq_false_iff_ne]
      intro e
      exact hab (by rw [e])
    rw [hb, hne]
    exact ⟨⟨pa, pb, trivial⟩, rfl, rfl⟩
end Go.Proofs.Ytdggbficiakbhaa
