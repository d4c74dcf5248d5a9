/- The cap at its ends. No condition. -/
import Derived.Test.YtdggbficiakbhaaSpanT
namespace Go.Proofs.Ytdggbficiakbhaa
open Go.Agm
theorem cap_big {q : Int} (h : q ≥ big) : cap q = big := by
  have hbig : big = 1099511627776 := rfl
  unfold cap lo hi
  (repeat' split) <;> omega
theorem cap_low {q : Int} (h : q ≤ -big) : cap q = -big := by
  have hbig : big = 1099511627776 := rfl
  unfold cap lo hi
  (repeat' split) <;> omega
theorem cap_zero : cap 0 = 0 := by decide
end Go.Proofs.Ytdggbficiakbhaa
