/- Entering, leaving, freeing: step by step. No condition. -/
import Derived.Test.YtdggbficiakbhaaHoldM
namespace Go.Proofs.Ytdggbficiakbhaa
open Go.Agm
variable {w0 : World}

/-- Holds: how many have entered, who is inside, what is held. -/
noncomputable def hpH (la : Int) (n m : Nat) (ci ch : List Value) : List (Option ABlk) :=
  [some (.cells [I la, SL (G + 1) n 1, SL (G + 2) m 2] true), some (.cells ci true), some (.cells ch true)]
noncomputable def hoH (la : Int) (n m : Nat) (ci ch co : List Value) : List (Option ABlk) :=
  [some (.cells [I la, SL (G + 1) n 1, SL (G + 2) m 2] true), some (.cells ci true), some (.cells ch true), some (.cells co true)]
abbrev nr43 : Nt := { gh := [], flags := [false, true, true], paths := [⟨0, [], true⟩], tr := [] }
abbrev kR (ci ch : List Value) : List (Int × Int) := keptD (diesB (unI ci)) (unP ch)
abbrev kO (ci ch : List Value) : List Int := freeD (diesB (unI ci)) (unP ch)
theorem run43 (la : Int) (n m : Nat) (ci ch : List Value) (K : List Value → AHeap → Prop) :
    segK2 Try.prog ft0 (semM (callsOf G [con51]) (retT G nr43 K)) Try.f43 [] 60 [.code (Try.f43.body.getD .skip)] (startF Try.f43 [PT G]) (fun _ _ _ => False) (heapB G (hpH la n m ci ch))
    = (((pl ci ∧ pl ch ∧ pl [] ∧ True) ∧ (pl ci ∧ pl (prs (kR ci ch)) ∧ pl (ints (kO ci ch)) ∧ True) ∧ pre51 m n 0 ci ch []) ∧
      (pl ci ∧ pl (prs (kR ci ch)) ∧ pl (ints (kO ci ch)) ∧ True) ∧ K [SL (G + 3) (kO ci ch).length 1] (heapB G (hoH la n (kR ci ch).length ci (prs (kR ci ch)) (ints (kO ci ch))))) := by kernel_rfl

def preH (n m : Nat) (ci ch : List Value) : Prop := ci = ints (unI ci) ∧ ci.length = n ∧ n < 1000000000 ∧ ch = prs (unP ch) ∧ (unP ch).length = m ∧ m < 1000000000
noncomputable def resH (la : Int) (n : Nat) (ci : List Value) (R : List (Int × Int)) (O : List Int) : List OutB :=
  [(false, some (.cells [I la, SL (G + 1) n 1, SL (G + 2) R.length 2] true)), (true, some (.cells ci true)), (true, some (.cells (prs R) true)), (true, some (.cells (ints O) true))]
noncomputable def hpHs (bs : List (Option ABlk)) : Option (Int × Nat × Nat × List Value × List Value) := match bs with
  | [some (.cells [la, si, sh] true), some (.cells ci true), some (.cells ch true)] =>
    match intV la, slN si 1 1, slN sh 2 2 with
    | some la, some n, some m => some (la, n, m, ci, ch)
    | _, _, _ => none
  | _ => none
theorem hpHs_eq {bs : List (Option ABlk)} {la : Int} {n m : Nat} {ci ch : List Value} (e : hpHs bs = some (la, n, m, ci, ch)) : bs = hpH la n m ci ch := by
  unfold hpHs at e
  split at e <;> first | (simp at e; done) | skip
  split at e <;> first | (simp at e; done) | skip
  rename_i la' si sh ci' ch' _ _ _ la2 n' m' h1 h2 h3
  simp only [Option.some.injEq, Prod.mk.injEq] at e
  obtain ⟨rfl, rfl, rfl, rfl, rfl⟩ := e
  rw [intV_eq h1, slN_eq h2, slN_eq h3]
  rfl
abbrev pathsH : List Pth := [⟨0, [], false⟩, ⟨0, [1], true⟩, ⟨0, [2], true⟩]
abbrev ghH : List Gh := [⟨0, some ([], 1), 1⟩, ⟨0, some ([], 2), 2⟩]
noncomputable def con43 : Con := { f := 43, gh := ghH, paths := pathsH, spec := fun args bs => match args with
  | [p] => match hpHs bs with
    | some (la, n, m, ci, ch) => bif isPtr p 0 then some (preH n m ci ch, [SL (G + 3) (kO ci ch).length 1], resH la n ci (kR ci ch) (kO ci ch)) else none
    | _ => none
  | _ => none }

theorem run28 (la t : Int) (n m : Nat) (ci ch : List Value) (K : List Value → AHeap → Prop) :
    segK2 Try.prog ft0 (semM (callsOf G [con43, con41]) (retT G nr43 K)) Try.f28 [] 60 [.code (Try.f28.body.getD .skip)] (startF Try.f28 [PT G, I t]) (fun _ _ _ => False) (heapB G (hpH la n m ci ch))
    = (((pl ci ∧ True) ∧ (pl (ints ((unI ci).filter fun x => !(x == t))) ∧ True) ∧ (ci = ints (unI ci) ∧ ci.length = n ∧ n < 1000000000)) ∧
       ((pl (ints ((unI ci).filter fun x => !(x == t))) ∧ pl ch ∧ True) ∧ (pl (ints ((unI ci).filter fun x => !(x == t))) ∧ pl (prs (kR (ints ((unI ci).filter fun x => !(x == t))) ch)) ∧ pl (ints (kO (ints ((unI ci).filter fun x => !(x == t))) ch)) ∧ True) ∧
          preH ((unI ci).filter fun x => !(x == t)).length m (ints ((unI ci).filter fun x => !(x == t))) ch) ∧
       (pl (ints ((unI ci).filter fun x => !(x == t))) ∧ pl (prs (kR (ints ((unI ci).filter fun x => !(x == t))) ch)) ∧ pl (ints (kO (ints ((unI ci).filter fun x => !(x == t))) ch)) ∧ True) ∧
       K [SL (G + 3) (kO (ints ((unI ci).filter fun x => !(x == t))) ch).length 1] (heapB G (hoH la ((unI ci).filter fun x => !(x == t)).length (kR (ints ((unI ci).filter fun x => !(x == t))) ch).length (ints ((unI ci).filter fun x => !(x == t))) (prs (kR (ints ((unI ci).filter fun x => !(x == t))) ch)) (ints (kO (ints ((unI ci).filter fun x => !(x == t))) ch))))) := by kernel_rfl

noncomputable def hoE (la : Int) (n m : Nat) (ci ch : List Value) : List (Option ABlk) :=
  [some (.cells [I la, SL (G + 3) n 1, SL (G + 2) m 2] true), none, some (.cells ch true), some (.cells ci true)]
abbrev nr29 : Nt := { gh := [], flags := [false, true, true], paths := [⟨1, [1], true⟩], tr := [] }
theorem run29 (la : Int) (n m : Nat) (ci ch : List Value) (K : List Value → AHeap → Prop) :
    segK2 Try.prog ft0 (semM (callsOf G []) (retT G nr29 K)) Try.f29 [] 60 [.code (Try.f29.body.getD .skip)] (startF Try.f29 [PT G]) (fun _ _ _ => False) (heapB G (hpH la n m ci ch))
    = (bif ((n == n && true) && true) then bif room (n + 1) 8 then bif Nat.ble (0 + n * 1) ci.length then
        ((pl ch ∧ pl ((ci.drop 0).take (n * 1) ++ [I (w (la + 1))]) ∧ True) ∧ K [I (w (la + 1))] (heapB G (hoE (w (la + 1)) (n + 1) m ((ci.drop 0).take (n * 1) ++ [I (w (la + 1))]) ch))) else False else False else False) := by kernel_rfl
end Go.Proofs.Ytdggbficiakbhaa
