/- The law SpanLeast: what it computes. No condition. -/
import Derived.Test.YtdggbficiakbhaaSpanY
import Derived.Test.YtdggbficiakbhaaSpanJ
namespace Go.Proofs.Ytdggbficiakbhaa
open Go.Agm

noncomputable def leastX (a b c d n : Int) : Bool :=
  bif same (cap (w (a + c))) (cap (w (b + d))) (rcap (w (a + c))) (rcap (w (b + d))) then
  bif same (cap (w (a - d))) (cap (w (b - c))) (rcap (w (a - d))) (rcap (w (b - c))) then
  bif same (lo (prodR a n) (prodR b n)) (hi (prodR a n) (prodR b n)) (lo (timesR a n) (timesR b n)) (hi (timesR a n) (timesR b n)) then
  bif same (lo (hi a 0) (hi n 0)) (lo (hi b 0) (hi n 0)) (lo (hi a 0) (hi n 0)) (lo (hi b 0) (hi n 0)) then
  same (lo a c) (hi b d) (lo a c) (hi b d) else false else false else false else false
theorem least_goB (a0 a1 b0 b1 n : Int) (h : AHeap) : goB Try.prog (tb.ft 5) (asks t3) Try.f5 60 [.code (Try.f5.body.getD .skip)] (startF Try.f5 [S a0 a1, S b0 b1, I n]) h =
    bif decide (n < -2147483648) then leastX (madeLo a0 a1) (madeHi a0 a1) (madeLo b0 b1) (madeHi b0 b1) (n.tmod 2147483648)
    else bif decide (n > 2147483648) then leastX (madeLo a0 a1) (madeHi a0 a1) (madeLo b0 b1) (madeHi b0 b1) (n.tmod 2147483648)
    else leastX (madeLo a0 a1) (madeHi a0 a1) (madeLo b0 b1) (madeHi b0 b1) n := by kernel_rfl

theorem rcap_cap (a : Int) : rcap a = cap a := by
  have hbig : big = 1099511627776 := rfl
  unfold rcap cap lo hi
  (repeat' split) <;> omega
theorem leastX_true {a b c d n : Int} (h1 : -big ≤ a) (h2 : a ≤ b) (h3 : b ≤ big) (h4 : -2147483648 ≤ n) (h5 : n ≤ 2147483648) : leastX a b c d n = true := by
  have e1 : prodR a n = timesR a n := (prodR_cap h1 (by omega) h4 h5).trans (timesR_cap h1 (by omega) h4 h5).symm
  have e2 : prodR b n = timesR b n := (prodR_cap (by omega) h3 h4 h5).trans (timesR_cap (by omega) h3 h4 h5).symm
  unfold leastX
  rw [e1, e2]
  simp only [rcap_cap, same_of rfl rfl, cond_true]
theorem least_true (a0 a1 b0 b1 n : Int) (h : AHeap) : ∃ h', R 5 [S a0 a1, S b0 b1, I n] h = some ([.bool true], h') := by
  refine law_spec t3_ok 60 rfl (fn := Try.f5) rfl rfl ?_
  refine (least_goB a0 a1 b0 b1 n h).trans ?_
  obtain ⟨h1, h2, h3⟩ := made_range a0 a1
  obtain ⟨h9, h8⟩ := tmod_range n
  by_cases g1 : n < -2147483648
  · simp only [g1, decide_true, cond_true]
    exact leastX_true h1 h2 h3 (by omega) (by omega)
  · by_cases g2 : n > 2147483648
    · simp only [g1, g2, decide_true, decide_false, cond_true, cond_false]
      exact leastX_true h1 h2 h3 (by omega) (by omega)
    · simp only [g1, g2, decide_false, cond_false]
      exact leastX_true h1 h2 h3 (by omega) (by omega)
end Go.Proofs.Ytdggbficiakbhaa
