/- The loop of Times. No condition. -/
import Derived.Test.YtdggbficiakbhaaSpanL
namespace Go.Proofs.Ytdggbficiakbhaa
open Go.Agm
def capped (q : Int) : Int := if q > big then big else q
def signed (neg : Bool) (q : Int) : Int := bif neg then -q else q
theorem signed_run (neg : Bool) {q : Int} (h0 : 0 ≤ q) (h1 : q ≤ big) (h : AHeap) : (bif neg then some ([I (w (0 - q))], h) else some ([I q], h)) = some ([I (signed neg q)], h) := by
  have hbig : big = 1099511627776 := rfl
  cases neg with
  | false => rfl
  | true =>
    simp only [cond_true, signed]
    rw [w_id (by omega) (by omega)]
    congr 4
    omega
theorem times_loop (neg : Bool) (h : AHeap) : ∀ (m : Nat) (a n p : Int), n.toNat ≤ m → 0 ≤ n → n ≤ 2147483648 → 0 ≤ a → (n > 0 → a ≤ 2 * big) → 0 ≤ p → p ≤ big → go Try.prog tb 19 Try.f19 todo7 (fr7 a n p neg) h = some ([I (signed neg (capped (p + a * n)))], h) := by
  have hbig : big = 1099511627776 := rfl
  intro m
  induction m with
  | zero =>
    intro a n p hm h0 h5 h1 h2 h3 h4
    have hn : n = 0 := by omega
    subst hn
    refine go_seg (cuts := [7]) 60 ((step7 a 0 p neg h _).trans ?_)
    have : capped (p + a * 0) = p := by rw [Int.mul_zero, Int.add_zero]; simp [capped, Int.not_lt.2 h4]
    rw [this]
    exact signed_run neg h3 h4 h
  | succ m ih =>
    intro a n p hm h0 h5 h1 h2 h3 h4
    refine go_seg (cuts := [7]) 60 ((step7 a n p neg h _).trans ?_)
    by_cases hn : n > 0
    · have hz : ∀ a', 0 ≤ a' → p + a * n > big → go Try.prog tb 19 Try.f19 todo7 (fr7 a' (w (Int.tdiv 0 2)) big neg) h = some ([I (signed neg (capped (p + a * n)))], h) := by
        intro a' k1 k3
        have := ih a' 0 big (by omega) (by omega) (by omega) k1 (fun hh => by omega) (by omega) (by omega)
        have e1 : capped (big + a' * 0) = big := by rw [Int.mul_zero, Int.add_zero]; simp [capped]
        have e2 : capped (p + a * n) = big := by simp [capped, k3]
        rw [e1] at this
        rw [e2]
        exact this
      have h2 := h2 hn
      have e2 : w (a * 2) = a * 2 := w_id (by omega) (by omega)
      have e3 : n.tmod 2 = n % 2 := Int.tmod_eq_emod_of_nonneg h0
      have e4 : n.tdiv 2 = n / 2 := Int.tdiv_eq_ediv_of_nonneg h0
      have e5 : w (n.tdiv 2) = n / 2 := by rw [e4]; exact w_id (by omega) (by omega)
      have e6 : w (p + a) = p + a := w_id (by omega) (by omega)
      obtain ⟨q, hq⟩ : ∃ q, q = n / 2 := ⟨_, rfl⟩
      obtain ⟨t, ht⟩ : ∃ t, t = a * q := ⟨_, rfl⟩
      have ht0 : 0 ≤ t := by rw [ht]; exact Int.mul_nonneg h1 (by omega)
      have ht1 : q ≥ 1 → a ≤ t := by
        intro hq1
        rw [ht]
        have := Int.mul_le_mul_of_nonneg_left hq1 h1
        rw [Int.mul_one] at this
        exact this
      have e7 : a * 2 * q = 2 * t := by rw [ht, Int.mul_comm a 2, Int.mul_assoc]
      rw [e2, e3, e5, e6]
      simp only [hn, decide_true, cond_true]
      rw [← hq]
      by_cases hodd : n % 2 = 1
      · have hn2 : n = 2 * q + 1 := by omega
        have e8 : a * n = 2 * t + a := by rw [hn2, Int.mul_add, Int.mul_one, ht, ← Int.mul_assoc, Int.mul_comm a 2, Int.mul_assoc]
        simp only [hodd, beq_self_eq_true, cond_true]
        by_cases g1 : p + a > big
        · simp only [g1, decide_true, cond_true]
          exact hz _ (by omega) (by omega)
        · have g2 : ¬ a > big := by omega
          simp only [g1, g2, decide_false, cond_false]
          have := ih (a * 2) q (p + a) (by omega) (by omega) (by omega) (by omega) (fun _ => by omega) (by omega) (by omega)
          rw [this, e7, e8]
          have e9 : p + a + 2 * t = p + (2 * t + a) := by omega
          rw [e9]
      · have hn2 : n = 2 * q := by omega
        have e8 : a * n = 2 * t := by rw [hn2, ht, ← Int.mul_assoc, Int.mul_comm a 2, Int.mul_assoc]
        have hb : (n % 2 == 1) = false := by simpa using hodd
        have g1 : ¬ p > big := by omega
        simp only [hb, cond_false, g1, decide_false]
        by_cases g2 : a > big
        · have g3 : n > 1 := by omega
          simp only [g2, g3, decide_true, cond_true]
          exact hz _ (by omega) (by have := ht1 (by omega); omega)
        · simp only [g2, decide_false, cond_false]
          have := ih (a * 2) q p (by omega) (by omega) (by omega) (by omega) (fun _ => by omega) (by omega) (by omega)
          rw [this, e7, e8]
    · have hn0 : n = 0 := by omega
      subst hn0
      have : capped (p + a * 0) = p := by rw [Int.mul_zero, Int.add_zero]; simp [capped, Int.not_lt.2 h4]
      rw [this]
      exact signed_run neg h3 h4 h
end Go.Proofs.Ytdggbficiakbhaa
