/- What times answers is the cap of the product. No condition. -/
import Derived.Test.YtdggbficiakbhaaSpanU
namespace Go.Proofs.Ytdggbficiakbhaa
open Go.Agm
theorem mul_pp {a n : Int} (h1 : a ≥ 1073741824) (h2 : n ≥ 1048576) : a * n ≥ big := by
  have hbig : big = 1099511627776 := rfl
  have := Int.mul_le_mul h1 h2 (by omega) (by omega)
  omega
theorem times_cap {a n : Int} (ha : -big ≤ a) (ha' : a ≤ big) (hn : -2147483648 ≤ n) (hn' : n ≤ 2147483648) (h : AHeap) : run Try.prog tb 37 [I a, I n] h = some ([I (cap (a * n))], h) := by
  have hbig : big = 1099511627776 := rfl
  refine run_of (n := 60) ((times_eq a n h).trans ?_)
  have small : (-1073741824 ≤ a ∧ a ≤ 1073741824) ∨ (-1048576 ≤ n ∧ n ≤ 1048576) → w (a * n) = a * n := by
    rintro (hh | hh)
    · have := mul_bound hh.1 hh.2 hn hn' (by omega)
      exact w_id (by omega) (by omega)
    · have := mul_bound ha ha' hh.1 hh.2 (by omega)
      exact w_id (by omega) (by omega)
  by_cases g1 : n = 0
  · subst g1; simp [cap_zero]
  · by_cases g2 : a = 0
    · subst g2; simp [cap_zero]
    · have b1 : (n == 0) = false := by simp [g1]
      have b2 : (a == 0) = false := by simp [g2]
      by_cases g3 : a > 1073741824
      · by_cases g4 : n > 1048576
        · have := mul_pp (a := a) (n := n) (by omega) (by omega)
          have e : cap (a * n) = big := cap_big this
          have p1 : a > 0 := by omega
          have p2 : n > 0 := by omega
          simp [b1, b2, g3, g4, p1, p2, e]
        · by_cases g5 : n < -1048576
          · have := mul_pp (a := a) (n := -n) (by omega) (by omega)
            have e : cap (a * n) = -big := cap_low (by rw [Int.mul_neg] at this; omega)
            have p1 : a > 0 := by omega
            have p2 : ¬ n > 0 := by omega
            simp [b1, b2, g3, g4, g5, p1, p2, e]
          · have e := small (.inr ⟨by omega, by omega⟩)
            simp [b1, b2, g3, g4, g5, e]
      · by_cases g6 : a < -1073741824
        · by_cases g4 : n > 1048576
          · have := mul_pp (a := -a) (n := n) (by omega) (by omega)
            have e : cap (a * n) = -big := cap_low (by rw [Int.neg_mul] at this; omega)
            have p1 : ¬ a > 0 := by omega
            have p2 : n > 0 := by omega
            simp [b1, b2, g3, g4, g6, p1, p2, e]
          · by_cases g5 : n < -1048576
            · have := mul_pp (a := -a) (n := -n) (by omega) (by omega)
              have e : cap (a * n) = big := cap_big (by rw [Int.neg_mul_neg] at this; omega)
              have p1 : ¬ a > 0 := by omega
              have p2 : ¬ n > 0 := by omega
              simp [b1, b2, g3, g4, g5, g6, p1, p2, e]
            · have e := small (.inr ⟨by omega, by omega⟩)
              simp [b1, b2, g3, g4, g5, g6, e]
        · have e := small (.inl ⟨by omega, by omega⟩)
          simp [b1, b2, g3, g6, e]
end Go.Proofs.Ytdggbficiakbhaa
