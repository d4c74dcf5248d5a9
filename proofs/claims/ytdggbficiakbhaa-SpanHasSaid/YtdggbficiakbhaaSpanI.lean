/- The law SpanHas: what it computes is true. No condition. -/
import Derived.Test.YtdggbficiakbhaaSpanH
namespace Go.Proofs.Ytdggbficiakbhaa
open Go.Agm

theorem cap_mono {p q : Int} (h : p ≤ q) : cap p ≤ cap q := by
  have hbig : big = 1099511627776 := rfl
  unfold cap lo hi
  (repeat' split) <;> omega
theorem cap_id {p : Int} (h1 : -big ≤ p) (h2 : p ≤ big) : cap p = p := by
  have hbig : big = 1099511627776 := rfl
  unfold cap lo hi
  (repeat' split) <;> omega
theorem lo_mono {p q m : Int} (h : p ≤ q) : lo p m ≤ lo q m := by
  unfold lo
  (repeat' split) <;> omega
theorem hi_mono {p q m : Int} (h : p ≤ q) : hi p m ≤ hi q m := by
  unfold hi
  (repeat' split) <;> omega
theorem sz_eq {a b : Int} (h1 : -big ≤ a) (h2 : a ≤ b) (h3 : b ≤ big) : sz a b = b - a + 1 := by
  have hbig : big = 1099511627776 := rfl
  unfold sz
  rw [w_id (n := b - a) (by omega) (by omega), w_id (by omega) (by omega)]
theorem tmod_sz (n : Int) {s : Int} (hs : 0 < s) : -s < n.tmod s ∧ n.tmod s < s := by
  have h1 := Int.emod_nonneg n (show s ≠ 0 by omega)
  have h2 := Int.emod_lt_of_pos n hs
  rw [Int.tmod_eq_emod]
  split <;> omega
theorem ofN_range {a b : Int} (n : Int) (h1 : -big ≤ a) (h2 : a ≤ b) (h3 : b ≤ big) : a ≤ ofN a b n ∧ ofN a b n ≤ b := by
  have hbig : big = 1099511627776 := rfl
  unfold ofN
  rw [sz_eq h1 h2 h3]
  obtain ⟨s, hs⟩ : ∃ s, s = b - a + 1 := ⟨_, rfl⟩
  rw [← hs]
  obtain ⟨k1, k2⟩ := tmod_sz n (s := s) (by omega)
  rw [w_id (n := n.tmod s + s) (by omega) (by omega)]
  have k3 : (n.tmod s + s).tmod s = (n.tmod s + s) % s := Int.tmod_eq_emod_of_nonneg (by omega)
  have k4 := Int.emod_nonneg (n.tmod s + s) (show s ≠ 0 by omega)
  have k5 := Int.emod_lt_of_pos (n.tmod s + s) (show 0 < s by omega)
  rw [k3, w_id (by omega) (by omega)]
  omega
theorem mul_between {a b x n : Int} (h1 : a ≤ x) (h2 : x ≤ b) : lo (cap (a * n)) (cap (b * n)) ≤ cap (x * n) ∧ cap (x * n) ≤ hi (cap (a * n)) (cap (b * n)) := by
  have l := lo_le (cap (a * n)) (cap (b * n))
  have u := hi_ge (cap (a * n)) (cap (b * n))
  by_cases hn : 0 ≤ n
  · have k1 := cap_mono (Int.mul_le_mul_of_nonneg_right h1 hn)
    have k2 := cap_mono (Int.mul_le_mul_of_nonneg_right h2 hn)
    omega
  · have k1 := cap_mono (Int.mul_le_mul_of_nonpos_right h1 (show n ≤ 0 by omega))
    have k2 := cap_mono (Int.mul_le_mul_of_nonpos_right h2 (show n ≤ 0 by omega))
    omega

theorem hasX_true {a b c d x y n : Int} (z : Int) (h1 : -big ≤ a) (h2 : b ≤ big) (h3 : -big ≤ c) (h4 : d ≤ big) (h5 : a ≤ x) (h6 : x ≤ b) (h7 : c ≤ y) (h8 : y ≤ d) (h9 : -2147483648 ≤ n) (h10 : n ≤ 2147483648) : hasX a b c d x y n z = true := by
  have hbig : big = 1099511627776 := rfl
  have l := lo_le a c
  have u := hi_ge b d
  have m := mul_between (n := n) h5 h6
  have p1 : prodR a n = cap (a * n) := prodR_cap h1 (by omega) h9 h10
  have p2 : prodR b n = cap (b * n) := prodR_cap (by omega) h2 h9 h10
  have p3 : timesR x n = cap (x * n) := timesR_cap (by omega) (by omega) h9 h10
  have w1 : w (a + c) = a + c := w_id (by omega) (by omega)
  have w2 : w (b + d) = b + d := w_id (by omega) (by omega)
  have w3 : w (x + y) = x + y := w_id (by omega) (by omega)
  have w4 : w (a - d) = a - d := w_id (by omega) (by omega)
  have w5 : w (b - c) = b - c := w_id (by omega) (by omega)
  have w6 : w (x - y) = x - y := w_id (by omega) (by omega)
  have c1 : cap x = x := cap_id (by omega) (by omega)
  unfold hasX
  rw [p1, p2, p3, w1, w2, w3, w4, w5, w6, c1]
  simp only [rcap_cap, beq_self_eq_true, hs_of (show -big ≤ x by omega) (show x ≤ big by omega), hs_of (show x ≤ x by omega) (show x ≤ x by omega), hs_of h5 h6,
    hs_of (show lo a c ≤ x by omega) (show x ≤ hi b d by omega), hs_of (show lo a c ≤ y by omega) (show y ≤ hi b d by omega),
    hs_of (cap_mono (show a + c ≤ x + y by omega)) (cap_mono (show x + y ≤ b + d by omega)), hs_of (cap_mono (show a - d ≤ x - y by omega)) (cap_mono (show x - y ≤ b - c by omega)),
    hs_of m.1 m.2, hs_of (lo_mono (m := hi n 0) (hi_mono (m := 0) h5)) (lo_mono (m := hi n 0) (hi_mono (m := 0) h6)), Bool.not_true, cond_true, cond_false]

theorem has_true (a0 a1 b0 b1 p q n : Int) (h : AHeap) : ∃ h', R 6 [S a0 a1, S b0 b1, .agg #[I p, I q, I n]] h = some ([.bool true], h') := by
  refine law_cond askH_ok 90 rfl (fn := Try.f6) rfl rfl ?_
  refine (has_goM a0 a1 b0 b1 p q n h).trans ?_
  have hbig : big = 1099511627776 := rfl
  obtain ⟨h1, h2, h3⟩ := made_range a0 a1
  obtain ⟨h4, h5, h6⟩ := made_range b0 b1
  obtain ⟨h9, h8⟩ := tmod_range n
  have x1 := ofN_range p h1 h2 h3
  have x2 := ofN_range q h4 h5 h6
  have s1 : (sz (madeLo a0 a1) (madeHi a0 a1) == 0) = false := by rw [sz_eq h1 h2 h3]; simp; omega
  have s2 : (sz (madeLo b0 b1) (madeHi b0 b1) == 0) = false := by rw [sz_eq h4 h5 h6]; simp; omega
  unfold hasG
  simp only [s1, s2, Bool.not_false, cond_true]
  by_cases g1 : n < -2147483648
  · simp only [g1, decide_true, cond_true]
    exact hasX_true p h1 h3 h4 h6 x1.1 x1.2 x2.1 x2.2 (by omega) (by omega)
  · by_cases g2 : n > 2147483648
    · simp only [g1, g2, decide_true, decide_false, cond_true, cond_false]
      exact hasX_true p h1 h3 h4 h6 x1.1 x1.2 x2.1 x2.2 (by omega) (by omega)
    · simp only [g1, g2, decide_false, cond_false]
      exact hasX_true p h1 h3 h4 h6 x1.1 x1.2 x2.1 x2.2 (by omega) (by omega)
end Go.Proofs.Ytdggbficiakbhaa
