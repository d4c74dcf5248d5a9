/- What is free of a row of things: the loops, step by step. No condition. -/
import Derived.Test.YtdggbficiakbhaaHoldI
namespace Go.Proofs.Ytdggbficiakbhaa
open Go.Agm
variable {w0 : World}

noncomputable abbrev F52 : Value := .func (.func 52) #[] #[PT G, PT (G + 1)]
def ft53 : FT := { loc := fun _ => false, mask := fun id => bif Nat.beq id 2 then live 19 [0, 1, 7, 8] else [] }
abbrev nt53 : Nt := { gh := [], flags := [false, false, false, true, true, true], paths := [⟨20, [0], true⟩], tr := [] }
noncomputable def fr53 (m : Nat) (i : Int) : List AV := frm 19 [(0, .v (SL (G + 4) m 2)), (1, .v F52), (7, .v (I m)), (8, .v (I i))]
noncomputable def todo53 : List Item := todoAt Try.f53 ft53 2 (startF Try.f53 [SL (G + 4) 0 2, F52]) (heapB G (hp52 0 0 0 0 [] [] []))
noncomputable abbrev H1 (la : Int) (n m k : Nat) (ci ch co : List Value) : AHeap := heapB G (ho52 la n m k ci ch co)
abbrev el (ch : List Value) (i : Int) : Bool := Nat.ble (0 + i.toNat * 2 + 2) ch.length && (okI .i64 (nth ch (0 + i.toNat * 2 + 0)) && (okI .i64 (nth ch (0 + i.toNat * 2 + 1)) && true))
abbrev eX (ch : List Value) (i : Int) : Int := intO (nth ch (0 + i.toNat * 2 + 0))
abbrev eL (ch : List Value) (i : Int) : Int := intO (nth ch (0 + i.toNat * 2 + 1))
abbrev oX (ci ch co : List Value) (i : Int) : List Int := outB (diesB (unI ci) (eL ch i)) (unI co) (eX ch i)

theorem start53 (la : Int) (q n m k : Nat) (ci ch co : List Value) (Q : Post) (L : List Item → List AV → AHeap → Prop) :
    segK2 Try.prog ft53 (semM (callsOf G [con52]) Q) Try.f53 [2] 60 [.code (Try.f53.body.getD .skip)] (startF Try.f53 [SL (G + 4) q 2, F52]) (fun t fr h => canonT G nt53 (L t) fr h) (heapB G (hp52 la n m k ci ch co))
    = ((pl ci ∧ pl ch ∧ pl co ∧ pl co ∧ True) ∧ L todo53 (fr53 q 0) (H1 la n m k ci ch co)) := by kernel_rfl
theorem head53 (la : Int) (q n m k : Nat) (ci ch co : List Value) (i : Int) (K : List Value → AHeap → Prop) (L : List Item → List AV → AHeap → Prop) :
    segK2 Try.prog ft53 (semM (callsOf G [con52]) (retT G nt52 K)) Try.f53 [2] 60 todo53 (fr53 q i) (fun t fr h => canonT G nt53 (L t) fr h) (H1 la n m k ci ch co)
    = (bif decide (i < q) then (bif decide (0 ≤ i) && decide (i < q) then bif el ch i then
        (((pl ci ∧ pl ch ∧ pl co ∧ True) ∧ (pl ci ∧ pl ch ∧ pl (ints (oX ci ch co i)) ∧ True) ∧ pre52 n k ci ch co) ∧
          bif diesB (unI ci) (eL ch i) then ((pl ci ∧ pl ch ∧ pl (ints (oX ci ch co i)) ∧ True) ∧ K [I i] (H1 la n m (oX ci ch co i).length ci ch (ints (oX ci ch co i))))
          else ((pl ci ∧ pl ch ∧ pl (ints (oX ci ch co i)) ∧ True) ∧ L todo53 (fr53 q (w (i + 1))) (H1 la n m (oX ci ch co i).length ci ch (ints (oX ci ch co i)))))
        else False else False)
      else ((pl ci ∧ pl ch ∧ pl co ∧ True) ∧ K [I (-1)] (H1 la n m k ci ch co))) := by kernel_rfl
end Go.Proofs.Ytdggbficiakbhaa
