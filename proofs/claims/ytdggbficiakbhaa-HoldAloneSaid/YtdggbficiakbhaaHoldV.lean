/- The law HoldAlone: its loop, step by step. No condition. -/
import Derived.Test.YtdggbficiakbhaaHoldU
namespace Go.Proofs.Ytdggbficiakbhaa
open Go.Agm
variable {w0 : World}

abbrev insE (la : Int) (ci : List Value) : List Int := unI ci ++ [w (la + 1)]
abbrev insL (t : Int) (ci : List Value) : List Int := gone t (unI ci)
abbrev kL (t : Int) (ci ch : List Value) : List (Int × Int) := keptD (diesB (insL t ci)) (unP ch)
abbrev oL (t : Int) (ci ch : List Value) : List Int := freeD (diesB (insL t ci)) (unP ch)
theorem head7 (q : Nat) (e i la : Int) (n m : Nat) (cl ci ch : List Value) (rw : Bool) (Q : Post) (L1 L2 : List Item → List AV → AHeap → Prop) :
    segK2 Try.prog ft7 (semM (callsOf G cs7) Q) Try.f7 [5, 9] 60 todo7 (fr7 q e i) (leaf7 L1 L2) (heapB G (hp7 la n m cl ci ch rw))
    = (bif decide (i < and64 e 7) then
        (((pl ci ∧ pl ch ∧ True) ∧ (pl ch ∧ pl (ints (insE la ci)) ∧ True) ∧ preH n m ci ch) ∧
         ((pl (ints (insE la ci)) ∧ pl ch ∧ True) ∧ (pl (ints (insL (w (la + 1)) (ints (insE la ci)))) ∧ pl (prs (kL (w (la + 1)) (ints (insE la ci)) ch)) ∧ pl (ints (oL (w (la + 1)) (ints (insE la ci)) ch)) ∧ True) ∧ preH (n + 1) m (ints (insE la ci)) ch) ∧
         (plr cl rw ∧ pl (ints (insL (w (la + 1)) (ints (insE la ci)))) ∧ pl (prs (kL (w (la + 1)) (ints (insE la ci)) ch)) ∧ True) ∧
         L1 todo7 (fr7 q e (w (i + 1))) (heapB G (hp7 (w (la + 1)) (insL (w (la + 1)) (ints (insE la ci))).length (kL (w (la + 1)) (ints (insE la ci)) ch).length cl (ints (insL (w (la + 1)) (ints (insE la ci)))) (prs (kL (w (la + 1)) (ints (insE la ci)) ch)) rw)))
       else bif decide (0 ≤ lo q 30) && decide (lo q 30 ≤ q) then
         (bif Nat.beq ((lo q 30).toNat - 0) 0 then ((plr cl rw ∧ pl ci ∧ pl ch ∧ pl [] ∧ True) ∧ L2 todo7b (fr7b e 0) (heapB G (hp7b la n m cl ci ch [] rw)))
          else bif Nat.ble (0 + 0 * 1 + ((lo q 30).toNat - 0) * 1) cl.length then bif room ((lo q 30).toNat - 0) 8 then
            ((plr cl rw ∧ pl ci ∧ pl ch ∧ pl ((cl.drop (0 + 0 * 1)).take (((lo q 30).toNat - 0) * 1)) ∧ True) ∧ L2 todo7b (fr7b e ((lo q 30).toNat - 0)) (heapB G (hp7b la n m cl ci ch ((cl.drop (0 + 0 * 1)).take (((lo q 30).toNat - 0) * 1)) rw)))
            else False else False)
        else False) := by kernel_rfl
abbrev k31 (la : Int) (ci ch ct : List Value) : List (Int × Int) := keptD (diesB (unI ci)) (all31 la ch ct)
abbrev o31 (la : Int) (ci ch ct : List Value) : List Int := freeD (diesB (unI ci)) (all31 la ch ct)
theorem end7 (e la : Int) (n m k : Nat) (cl ci ch ct : List Value) (rw : Bool) (K : List Value → Prop) :
    segK2 Try.prog ft7 (semM (callsOf G cs7) (fun rs _ => K rs)) Try.f7 [] 60 todo7b (fr7b e k) (fun _ _ _ => False) (heapB G (hp7b la n m cl ci ch ct rw))
    = (((pl ci ∧ pl ch ∧ pl ct ∧ True) ∧ (pl ci ∧ pl ct ∧ pl (prs (k31 la ci ch ct)) ∧ pl (ints (o31 la ci ch ct)) ∧ True) ∧ preD k n m ci ch ct) ∧
       ((pl (ints (o31 la ci ch ct)) ∧ pl ct ∧ True) ∧ (pl (ints (o31 la ci ch ct)) ∧ pl ct ∧ True) ∧ (ints (o31 la ci ch ct) = ints (unI (ints (o31 la ci ch ct))) ∧ (ints (o31 la ci ch ct)).length = (o31 la ci ch ct).length ∧ ct = ints (unI ct) ∧ ct.length = k ∧ k < 1000000000)) ∧
       bif (unI (ints (o31 la ci ch ct)) == unI ct) then
         (((pl ci ∧ pl (prs (k31 la ci ch ct)) ∧ True) ∧ (pl ci ∧ pl (prs (k31 la ci ch ct)) ∧ pl (ints ((unP (prs (k31 la ci ch ct))).map (·.1))) ∧ True) ∧ (PlainL ci ∧ prs (k31 la ci ch ct) = prs (unP (prs (k31 la ci ch ct))) ∧ (unP (prs (k31 la ci ch ct))).length = (k31 la ci ch ct).length ∧ (k31 la ci ch ct).length < 1000000000)) ∧
          bif (((k31 la ci ch ct).length : Int) == 0) then
            (((pl ci ∧ pl (prs (k31 la ci ch ct)) ∧ True) ∧ (pl (prs (k31 la ci ch ct)) ∧ pl (ints (insE la ci)) ∧ True) ∧ preH n (k31 la ci ch ct).length ci (prs (k31 la ci ch ct))) ∧ K [.bool (w (la + 1) == w (1 + and64 e 7))])
          else K [.bool false])
       else K [.bool false]) := by kernel_rfl
end Go.Proofs.Ytdggbficiakbhaa
