/- Times, from its start. No condition. -/
import Derived.Test.YtdggbficiakbhaaSpanM
namespace Go.Proofs.Ytdggbficiakbhaa
open Go.Agm
theorem start7 (a n : Int) (h : AHeap) (k : List Item → List AV → AHeap → Option Res) :
   segK Try.prog (tb.ft 19) (optM (run Try.prog tb)) Try.f19 [7] 60 [.code (Try.f19.body.getD .skip)] (startF Try.f19 [I a, I n]) k h =
    bif decide (a < 0) then (bif decide (n < 0) then k todo7 (fr7 (w (0 - a)) (w (0 - n)) 0 (decide (a < 0) != decide (n < 0))) h else k todo7 (fr7 (w (0 - a)) n 0 (decide (a < 0) != decide (n < 0))) h)
    else (bif decide (n < 0) then k todo7 (fr7 a (w (0 - n)) 0 (decide (a < 0) != decide (n < 0))) h else k todo7 (fr7 a n 0 (decide (a < 0) != decide (n < 0))) h) := by kernel_rfl
def absI (a : Int) : Int := if a < 0 then -a else a
theorem times_ref {a n : Int} (ha : -big ≤ a) (ha' : a ≤ big) (hn : -2147483648 ≤ n) (hn' : n ≤ 2147483648) (h : AHeap) :
    run Try.prog tb 19 [I a, I n] h = some ([I (signed (decide (a < 0) != decide (n < 0)) (capped (absI a * absI n)))], h) := by
  have hbig : big = 1099511627776 := rfl
  refine run_go (fn := Try.f19) rfl rfl rfl (go_seg (cuts := [7]) 60 ((start7 a n h _).trans ?_))
  have key : ∀ b m : Int, 0 ≤ b → b ≤ big → 0 ≤ m → m ≤ 2147483648 → go Try.prog tb 19 Try.f19 todo7 (fr7 b m 0 (decide (a < 0) != decide (n < 0))) h = some ([I (signed (decide (a < 0) != decide (n < 0)) (capped (b * m)))], h) := by
    intro b m h1 h2 h3 h4
    have := times_loop (decide (a < 0) != decide (n < 0)) h m.toNat b m 0 (Nat.le_refl _) h3 h4 h1 (fun _ => by omega) (by omega) (by omega)
    rw [Int.zero_add] at this
    exact this
  have e1 : w (0 - a) = -a := by rw [w_id (by omega) (by omega)]; omega
  have e2 : w (0 - n) = -n := by rw [w_id (by omega) (by omega)]; omega
  unfold absI
  rw [e1, e2]
  by_cases g1 : a < 0
  · by_cases g2 : n < 0
    · have := key (-a) (-n) (by omega) (by omega) (by omega) (by omega)
      simpa [g1, g2] using this
    · have := key (-a) n (by omega) (by omega) (by omega) (by omega)
      simpa [g1, g2] using this
  · by_cases g2 : n < 0
    · have := key a (-n) (by omega) (by omega) (by omega) (by omega)
      simpa [g1, g2] using this
    · have := key a n (by omega) (by omega) (by omega) (by omega)
      simpa [g1, g2] using this
end Go.Proofs.Ytdggbficiakbhaa
