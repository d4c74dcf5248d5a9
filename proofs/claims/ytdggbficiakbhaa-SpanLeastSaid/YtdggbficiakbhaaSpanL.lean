/- One round of the loop of Times. No condition. -/
import Derived.Test.YtdggbficiakbhaaSpanPlain
namespace Go.Proofs.Ytdggbficiakbhaa
open Go.Agm
noncomputable def todo7 : List Item := segK Try.prog (tb.ft 19) { fail := [], ret := fun _ _ => [], call := fun _ _ _ _ => [] } Try.f19 [7] 60 [.code (Try.f19.body.getD .skip)] (startF Try.f19 [I 1, I 1]) (fun t _ _ => t) (heapOf 0 [])
def fr7 (a n p : Int) (neg : Bool) : List AV := [.v (I a), .v (I n), .dead, .dead, .v (I 0), .v (.bool neg), .v (I p)] ++ List.replicate 39 .dead
theorem step7 (a n p : Int) (neg : Bool) (h : AHeap) (k : List Item → List AV → AHeap → Option Res) :
   segK Try.prog (tb.ft 19) (optM (run Try.prog tb)) Try.f19 [7] 60 todo7 (fr7 a n p neg) k h =
    bif decide (n > 0) then
      (bif (n.tmod 2 == 1) then
        (bif decide (w (p + a) > big) then k todo7 (fr7 (w (a * 2)) (w (Int.tdiv 0 2)) big neg) h
         else bif decide (a > big) then (bif decide (n > 1) then k todo7 (fr7 (w (a * 2)) (w (Int.tdiv 0 2)) big neg) h else k todo7 (fr7 (w (a * 2)) (w (n.tdiv 2)) (w (p + a)) neg) h)
         else k todo7 (fr7 (w (a * 2)) (w (n.tdiv 2)) (w (p + a)) neg) h)
       else (bif decide (p > big) then k todo7 (fr7 (w (a * 2)) (w (Int.tdiv 0 2)) big neg) h
         else bif decide (a > big) then (bif decide (n > 1) then k todo7 (fr7 (w (a * 2)) (w (Int.tdiv 0 2)) big neg) h else k todo7 (fr7 (w (a * 2)) (w (n.tdiv 2)) p neg) h)
         else k todo7 (fr7 (w (a * 2)) (w (n.tdiv 2)) p neg) h))
    else bif neg then some ([I (w (0 - p))], h) else some ([I p], h) := by kernel_rfl
end Go.Proofs.Ytdggbficiakbhaa
