/- The branches of times. No condition. -/
import Derived.Test.YtdggbficiakbhaaSpanP
namespace Go.Proofs.Ytdggbficiakbhaa
open Go.Agm

def timesN (a n : Int) : Int :=
  if n = 0 ∨ a = 0 then 0
  else if (a > 1073741824 ∨ a < -1073741824) ∧ (n > 1048576 ∨ n < -1048576) then (if decide (a > 0) == decide (n > 0) then big else -big)
  else cap (w (a * n))
theorem times_eq (a n : Int) (h : AHeap) : runK Try.prog tb 60 37 [I a, I n] h =
   (bif (n == 0) then some ([I 0], h) else bif (a == 0) then some ([I 0], h) else
    bif decide (a > 1073741824) then (bif decide (n > 1048576) then (bif (decide (a > 0) == decide (n > 0)) then some ([I big], h) else some ([I (-big)], h)) else bif decide (n < -1048576) then (bif (decide (a > 0) == decide (n > 0)) then some ([I big], h) else some ([I (-big)], h)) else some ([I (cap (w (a * n)))], h))
    else bif decide (a < -1073741824) then (bif decide (n > 1048576) then (bif (decide (a > 0) == decide (n > 0)) then some ([I big], h) else some ([I (-big)], h)) else bif decide (n < -1048576) then (bif (decide (a > 0) == decide (n > 0)) then some ([I big], h) else some ([I (-big)], h)) else some ([I (cap (w (a * n)))], h))
    else some ([I (cap (w (a * n)))], h)) := by kernel_rfl
theorem mul_bound {a n A N : Int} (h1 : -A ≤ a) (h2 : a ≤ A) (h3 : -N ≤ n) (h4 : n ≤ N) (hA : 0 ≤ A) : -(A * N) ≤ a * n ∧ a * n ≤ A * N := by
  have k1 : (a.natAbs : Int) ≤ A := by omega
  have k2 : (n.natAbs : Int) ≤ N := by omega
  have k3 : (a.natAbs : Int) * n.natAbs ≤ A * N := Int.mul_le_mul k1 k2 (by omega) hA
  have k4 : ((a * n).natAbs : Int) = a.natAbs * n.natAbs := by rw [Int.natAbs_mul]; simp
  omega
end Go.Proofs.Ytdggbficiakbhaa
