/- The product and its cap. No condition. -/
import Derived.Test.YtdggbficiakbhaaSpanN
namespace Go.Proofs.Ytdggbficiakbhaa
open Go.Agm
def prodN (a n : Int) : Int := signed (decide (a < 0) != decide (n < 0)) (capped (absI a * absI n))
theorem absI_mul (a n : Int) : absI a * absI n = bif decide (a < 0) != decide (n < 0) then -(a * n) else a * n := by
  unfold absI
  by_cases g1 : a < 0 <;> by_cases g2 : n < 0 <;> simp [g1, g2, Int.neg_mul, Int.mul_neg]
theorem prodN_cap (a n : Int) : prodN a n = cap (a * n) := by
  have hbig : big = 1099511627776 := rfl
  have h0 : 0 ≤ absI a * absI n := by
    refine Int.mul_nonneg ?_ ?_ <;> (unfold absI; split <;> omega)
  unfold prodN
  rw [absI_mul] at h0 ⊢
  revert h0
  cases (decide (a < 0) != decide (n < 0)) with
  | false =>
    intro h0
    simp only [cond_false, signed] at h0 ⊢
    unfold capped cap lo hi
    (repeat' split) <;> omega
  | true =>
    intro h0
    simp only [cond_true, signed] at h0 ⊢
    unfold capped cap lo hi
    (repeat' split) <;> omega
end Go.Proofs.Ytdggbficiakbhaa
