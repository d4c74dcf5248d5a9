/- Deleting what is free of a row of things: the loop, step by step. No condition. -/
import Derived.Test.YtdggbficiakbhaaHoldK
namespace Go.Proofs.Ytdggbficiakbhaa
open Go.Agm
variable {w0 : World}

def ft51 : FT := { loc := fun _ => false, mask := fun id => bif Nat.beq id 5 then live 42 [0, 1, 5, 6] else [] }
abbrev nt51 : Nt := { gh := [], flags := [false, false, false, true, true, true], paths := [⟨43, [0], true⟩], tr := [] }
abbrev nr51 : Nt := { gh := [], flags := [false, false, false, true, true, true], paths := [⟨2, [0], true⟩], tr := [(0, [])] }
noncomputable def fr51 (q : Nat) (i j : Int) : List AV := frm 42 [(0, .v (SL (G + 4) q 2)), (1, .v F52), (5, .v (I i)), (6, .v (I j))]
noncomputable def todo51 : List Item := todoAt Try.f51 ft51 5 (startF Try.f51 [SL (G + 4) 0 2, F52]) (heapB G (hp52 0 0 0 0 [] [] []))
abbrev oD (ci ch co : List Value) : List Int := outD (diesB (unI ci)) (unP ch) (unI co)
abbrev iD (ci ch : List Value) : Int := idxD (diesB (unI ci)) (unP ch) 0

theorem start51 (la : Int) (q n m k : Nat) (ci ch co : List Value) (K : List Value → AHeap → Prop) (L : List Item → List AV → AHeap → Prop) :
    segK2 Try.prog ft51 (semM (callsOf G [con53, con52]) (retT G nr51 K)) Try.f51 [5] 60 [.code (Try.f51.body.getD .skip)] (startF Try.f51 [SL (G + 4) q 2, F52]) (fun t fr h => canonT G nt51 (L t) fr h) (heapB G (hp52 la n m k ci ch co))
    = (((pl ci ∧ pl ch ∧ pl co ∧ True) ∧ (pl ci ∧ pl ch ∧ pl (ints (oD ci ch co)) ∧ True) ∧ pre53 q n k ci ch co) ∧
      bif (iD ci ch == -1) then ((pl ci ∧ pl (ch.take (q * 2)) ∧ pl (ints (oD ci ch co)) ∧ True) ∧ K [SL (G + 4) q 2] (H1 la n m (oD ci ch co).length ci (ch.take (q * 2)) (ints (oD ci ch co))))
      else ((pl ci ∧ pl ch ∧ pl (ints (oD ci ch co)) ∧ True) ∧ L todo51 (fr51 q (iD ci ch) (w (iD ci ch + 1))) (H1 la n m (oD ci ch co).length ci ch (ints (oD ci ch co))))) := by kernel_rfl
theorem head51 (la : Int) (q n m k : Nat) (ci ch co : List Value) (i j : Int) (K : List Value → AHeap → Prop) (L : List Item → List AV → AHeap → Prop) :
    segK2 Try.prog ft51 (semM (callsOf G [con53, con52]) (retT G nr51 K)) Try.f51 [5] 60 todo51 (fr51 q i j) (fun t fr h => canonT G nt51 (L t) fr h) (H1 la n m k ci ch co)
    = (bif decide (j < q) then (bif decide (0 ≤ j) && decide (j < q) then bif el ch j then
        (((pl ci ∧ pl ch ∧ pl co ∧ True) ∧ (pl ci ∧ pl ch ∧ pl (ints (oX ci ch co j)) ∧ True) ∧ pre52 n k ci ch co) ∧
          bif !(diesB (unI ci) (eL ch j)) then (bif decide (0 ≤ i) && decide (i < q) then bif Nat.ble (0 + i.toNat * 2 + 2) ch.length then
             ((pl ci ∧ pl (splice ch (0 + i.toNat * 2) [I (eX ch j), I (eL ch j)]) ∧ pl (ints (oX ci ch co j)) ∧ True) ∧ L todo51 (fr51 q (w (i + 1)) (w (j + 1))) (H1 la n m (oX ci ch co j).length ci (splice ch (0 + i.toNat * 2) [I (eX ch j), I (eL ch j)]) (ints (oX ci ch co j))))
             else False else False)
          else ((pl ci ∧ pl ch ∧ pl (ints (oX ci ch co j)) ∧ True) ∧ L todo51 (fr51 q i (w (j + 1))) (H1 la n m (oX ci ch co j).length ci ch (ints (oX ci ch co j)))))
        else False else False)
      else bif decide (0 ≤ i) && decide (i ≤ q) then bif Nat.beq (q - i.toNat) 0 then
            (bif decide (0 ≤ i) && decide (i ≤ q) then ((pl ci ∧ pl (ch.take ((i.toNat - 0) * 2)) ∧ pl co ∧ True) ∧ K [SL (G + 4) (i.toNat - 0) 2] (H1 la n m k ci (ch.take ((i.toNat - 0) * 2)) co)) else False)
          else (bif Nat.ble (0 + i.toNat * 2 + (q - i.toNat) * 2) ch.length then
            (bif decide (0 ≤ i) && decide (i ≤ q) then
              ((pl ci ∧ pl ((splice ch (0 + i.toNat * 2) (List.replicate (q - i.toNat) [I 0, I 0]).flatten).take ((i.toNat - 0) * 2)) ∧ pl co ∧ True) ∧
                K [SL (G + 4) (i.toNat - 0) 2] (H1 la n m k ci ((splice ch (0 + i.toNat * 2) (List.replicate (q - i.toNat) [I 0, I 0]).flatten).take ((i.toNat - 0) * 2)) co)) else False) else False)
         else False) := by kernel_rfl
end Go.Proofs.Ytdggbficiakbhaa
