/- A span within a bound: what the law computes is true. No condition. -/
import Derived.Test.YtdggbficiakbhaaSpan
namespace Go.Proofs.Ytdggbficiakbhaa
open Go.Agm

theorem w_id {n : Int} (h1 : -9223372036854775808 ≤ n) (h2 : n < 9223372036854775808) : w n = n := by
  have e : IntKind.i64.wrap n = if n % 18446744073709551616 ≥ 9223372036854775808 then n % 18446744073709551616 - 18446744073709551616 else n % 18446744073709551616 := by
    simp [IntKind.wrap, IntKind.bits, IntKind.signed]
  show IntKind.i64.wrap n = n
  rw [e]
  split <;> omega

theorem and_range (x : Int) (m : Nat) (hm : m < 9223372036854775808) : 0 ≤ and64 x m ∧ and64 x m ≤ m := by
  have h1 : (BitVec.ofInt 64 x &&& BitVec.ofInt 64 (m : Int)).toNat ≤ m := by
    rw [BitVec.toNat_and]
    refine Nat.le_trans Nat.and_le_right ?_
    simp only [BitVec.toNat_ofInt]
    omega
  unfold and64
  rw [w_id (by omega) (by omega)]
  omega

theorem rcap_range (a : Int) : -big ≤ rcap a ∧ rcap a ≤ big := by have hbig : big = 1099511627776 := rfl; unfold rcap; split <;> (try split) <;> omega
theorem made_range (a b : Int) : -big ≤ madeLo a b ∧ madeLo a b ≤ madeHi a b ∧ madeHi a b ≤ big := by
  have h1 := rcap_range a
  have h2 := rcap_range b
  unfold madeLo madeHi lo hi
  split <;> split <;> omega

theorem wX_true {a b o k n : Int} (h1 : -big ≤ a) (h2 : a ≤ b) (h3 : b ≤ big) (h4 : -2147483648 ≤ o) (h5 : o ≤ 2147483648) (h6 : 0 ≤ k) (h7 : k ≤ 1023) : wX a b o k n = true := by
  have hbig : big = 1099511627776 := rfl
  have e1 : w (a + o) = a + o := w_id (by omega) (by omega)
  have e2 : w (b + o) = b + o := w_id (by omega) (by omega)
  have e3 : w (b + o + k) = b + o + k := w_id (by omega) (by omega)
  have e4 : w (a + o + k) = a + o + k := w_id (by omega) (by omega)
  unfold wX wi
  rw [e1, e2, e3, e4]
  by_cases g1 : a + o ≥ 0 <;> by_cases g2 : b + o + k ≤ n <;> by_cases g3 : a + o + k ≤ n <;> by_cases g4 : b + o ≥ 0 <;> simp [g1, g2, g3, g4] <;> omega

theorem tmod_range (n : Int) : -2147483648 < n.tmod 2147483648 ∧ n.tmod 2147483648 < 2147483648 := by
  rw [Int.tmod_eq_emod]
  split <;> omega

/-- Whatever the input. -/
theorem within_true (a0 a1 off s0 s1 : Int) (h : AHeap) : ∃ h', R 3 [S a0 a1, I off, S s0 s1] h = some ([.bool true], h') := by
  refine law_spec t1_ok 60 rfl (fn := Try.f3) rfl rfl ?_
  refine (within_goB a0 a1 off s0 s1 h).trans ?_
  obtain ⟨h1, h2, h3⟩ := made_range a0 a1
  obtain ⟨h6, h7⟩ := and_range s0 1023 (by omega)
  obtain ⟨h9, h8⟩ := tmod_range off
  by_cases g1 : off < -2147483648
  · simp only [g1, decide_true, cond_true]
    exact wX_true h1 h2 h3 (by omega) (by omega) h6 h7
  · by_cases g2 : off > 2147483648
    · simp only [g1, g2, decide_true, decide_false, cond_true, cond_false]
      exact wX_true h1 h2 h3 (by omega) (by omega) h6 h7
    · simp only [g1, g2, decide_false, cond_false]
      exact wX_true h1 h2 h3 (by omega) (by omega) h6 h7

end Go.Proofs.Ytdggbficiakbhaa
