/- Deleting a number from a row: the loop, step by step. No condition. -/
import Derived.Test.YtdggbficiakbhaaHoldE
namespace Go.Proofs.Ytdggbficiakbhaa
open Go.Agm
variable {w0 : World}

def ft41 : FT := { loc := fun _ => false, mask := fun id => bif Nat.beq id 5 then live 42 [0, 1, 5, 6] else [] }
abbrev nt41 : Nt := { gh := [], flags := [false, true], paths := [], tr := [(0, [])] }
noncomputable def fr41 (n : Nat) (i j : Int) : List AV := frm 42 [(0, .v (SL (G + 1) n 1)), (1, .v (F42 0)), (5, .v (I i)), (6, .v (I j))]
noncomputable def todo41 : List Item := todoAt Try.f41 ft41 5 (startF Try.f41 [SL (G + 1) 0 1, F42 0]) (hp50 0 [] true)

theorem start41 (n : Nat) (t : Int) (cs : List Value) (K : List Value → AHeap → Prop) (L : List Item → List AV → AHeap → Prop) :
    segK2 Try.prog ft41 (semM (callsOf G [con50, con42]) (retT G nt41 K)) Try.f41 [5] 60 [.code (Try.f41.body.getD .skip)] (startF Try.f41 [SL (G + 1) n 1, F42 0]) (fun t fr h => canonT G nm50 (L t) fr h) (hp50 t cs true)
    = (((plainB (.cells cs true) ∧ True) ∧ (plainB (.cells cs true) ∧ True) ∧ (cs = ints (unI cs) ∧ cs.length = n ∧ n < 1000000000)) ∧
      bif (idxF t (unI cs) 0 == -1) then ((plainB (.cells (cs.take (n * 1)) true) ∧ True) ∧ K [SL (G + 1) n 1] (hp50 t (cs.take (n * 1)) true))
      else ((plainB (.cells cs true) ∧ True) ∧ L todo41 (fr41 n (idxF t (unI cs) 0) (w (idxF t (unI cs) 0 + 1))) (hp50 t cs true))) := by kernel_rfl
theorem head41 (n : Nat) (i j t : Int) (cs : List Value) (K : List Value → AHeap → Prop) (L : List Item → List AV → AHeap → Prop) :
    segK2 Try.prog ft41 (semM (callsOf G [con50, con42]) (retT G nt41 K)) Try.f41 [5] 60 todo41 (fr41 n i j) (fun t fr h => canonT G nm50 (L t) fr h) (hp50 t cs true)
    = (bif decide (j < n) then (bif decide (0 ≤ j) && decide (j < n) then bif okI .i64 (nth cs (0 + j.toNat * 1)) then
         ((True ∧ True ∧ True) ∧ bif !(intO (nth cs (0 + j.toNat * 1)) == t) then
            (bif decide (0 ≤ i) && decide (i < n) then bif Nat.ble (0 + i.toNat * 1 + 1) cs.length then
               ((plainB (.cells (splice cs (0 + i.toNat * 1) [I (intO (nth cs (0 + j.toNat * 1)))]) true) ∧ True) ∧ L todo41 (fr41 n (w (i + 1)) (w (j + 1))) (hp50 t (splice cs (0 + i.toNat * 1) [I (intO (nth cs (0 + j.toNat * 1)))]) true))
             else False else False)
          else ((plainB (.cells cs true) ∧ True) ∧ L todo41 (fr41 n i (w (j + 1))) (hp50 t cs true))) else False else False)
       else bif decide (0 ≤ i) && decide (i ≤ n) then bif Nat.beq (n - i.toNat) 0 then
            (bif decide (0 ≤ i) && decide (i ≤ n) then ((plainB (.cells (cs.take ((i.toNat - 0) * 1)) true) ∧ True) ∧ K [SL (G + 1) (i.toNat - 0) 1] (hp50 t (cs.take ((i.toNat - 0) * 1)) true)) else False)
          else (bif Nat.ble (0 + i.toNat * 1 + (n - i.toNat) * 1) cs.length then
            (bif decide (0 ≤ i) && decide (i ≤ n) then
              ((plainB (.cells ((splice cs (0 + i.toNat * 1) (List.replicate (n - i.toNat) [I 0]).flatten).take ((i.toNat - 0) * 1)) true) ∧ True) ∧
                K [SL (G + 1) (i.toNat - 0) 1] (hp50 t ((splice cs (0 + i.toNat * 1) (List.replicate (n - i.toNat) [I 0]).flatten).take ((i.toNat - 0) * 1)) true)) else False) else False)
         else False) := by kernel_rfl
end Go.Proofs.Ytdggbficiakbhaa
