/- Whether a thing is free: the closure. No condition. -/
import Derived.Test.YtdggbficiakbhaaHoldG
namespace Go.Proofs.Ytdggbficiakbhaa
open Go.Agm
variable {w0 : World}

/-- What free's closure sees: two boxes, the holds, who is inside, what is held, what is free. -/
noncomputable def hp52 (last : Int) (n m k : Nat) (ci ch co : List Value) : List (Option ABlk) :=
  [some (.cells [PT (G + 2)] true), some (.cells [SL (G + 5) k 1] true), some (.cells [I last, SL (G + 3) n 1, SL (G + 4) m 2] true), some (.cells ci true), some (.cells ch true), some (.cells co true)]
noncomputable def ho52 (last : Int) (n m k : Nat) (ci ch co : List Value) : List (Option ABlk) :=
  [some (.cells [PT (G + 2)] true), some (.cells [SL (G + 6) k 1] true), some (.cells [I last, SL (G + 3) n 1, SL (G + 4) m 2] true), some (.cells ci true), some (.cells ch true), none, some (.cells co true)]
abbrev nt52 : Nt := { gh := [], flags := [false, false, false, true, true, true], paths := [⟨2, [0], true⟩], tr := [] }
def ft0 : FT := { loc := fun _ => false, mask := fun _ => [] }
abbrev pl (cs : List Value) : Prop := plainB (.cells cs true)
theorem run52 (x l last : Int) (n m k : Nat) (ci ch co : List Value) (K : List Value → AHeap → Prop) :
    segK2 Try.prog ft0 (semM (callsOf G []) (retT G nt52 K)) Try.f52 [] 60 [.code (Try.f52.body.getD .skip)] (startF Try.f52 [.agg #[I x, I l], PT G, PT (G + 1)]) (fun _ _ _ => False) (heapB G (hp52 last n m k ci ch co))
    = (bif decide ((n : Int) > 0) then (bif decide ((0 : Int) ≤ 0) && decide ((0 : Int) < n) then bif okI .i64 (nth ci (0 + (0 : Int).toNat * 1)) then
          (bif decide (intO (nth ci (0 + (0 : Int).toNat * 1)) ≤ l) then ((pl ci ∧ pl ch ∧ pl co ∧ pl co ∧ True) ∧ K [.bool false] (heapB G (ho52 last n m k ci ch co)))
           else (bif room (k + 1) 8 then bif Nat.ble (0 + k * 1) co.length then ((pl ci ∧ pl ch ∧ pl ((co.drop 0).take (k * 1) ++ [I x]) ∧ True) ∧ K [.bool true] (heapB G (ho52 last n m (k + 1) ci ch ((co.drop 0).take (k * 1) ++ [I x])))) else False else False)) else False else False)
       else (bif room (k + 1) 8 then bif Nat.ble (0 + k * 1) co.length then ((pl ci ∧ pl ch ∧ pl ((co.drop 0).take (k * 1) ++ [I x]) ∧ True) ∧ K [.bool true] (heapB G (ho52 last n m (k + 1) ci ch ((co.drop 0).take (k * 1) ++ [I x])))) else False else False)) := by kernel_rfl
end Go.Proofs.Ytdggbficiakbhaa
