/- Joins of spans: what the law computes is true. No condition. -/
import Derived.Test.YtdggbficiakbhaaSpanPlain
namespace Go.Proofs.Ytdggbficiakbhaa
open Go.Agm

def hs (a b n : Int) : Bool := bif decide (n ≥ a) then decide (n ≤ b) else false
def same (a b c d : Int) : Bool := (a == c) && ((b == d) && true)
def jLaw (a b c d e f : Int) : Bool :=
  let x := lo (lo a c) e
  let y := hi (hi b d) f
  bif !(same x y (lo a (lo c e)) (hi b (hi d f))) then false else
  bif !(same (lo a c) (hi b d) (lo c a) (hi d b)) then false else
  bif !(same (lo a a) (hi b b) a b) then false else
  bif !(same (lo a (-big)) (hi b big) (-big) big) then false else
  bif hs x y a then bif hs x y d then bif hs x y e then bif !(hs x y (w (lo (lo a c) e - 1))) then !(hs x y (w (hi (hi b d) f + 1))) else false else false else false else false

theorem joins_goB (a0 a1 b0 b1 c0 c1 : Int) (h : AHeap) : goB Try.prog (tb.ft 4) (asks t1) Try.f4 60 [.code (Try.f4.body.getD .skip)] (startF Try.f4 [S a0 a1, S b0 b1, S c0 c1]) h =
    jLaw (madeLo a0 a1) (madeHi a0 a1) (madeLo b0 b1) (madeHi b0 b1) (madeLo c0 c1) (madeHi c0 c1) := by kernel_rfl

theorem same_of {a b c d : Int} (h1 : a = c) (h2 : b = d) : same a b c d = true := by subst h1 h2; simp [same]
theorem hs_of {a b n : Int} (h1 : a ≤ n) (h2 : n ≤ b) : hs a b n = true := by simp [hs, h1, h2]
theorem hs_lt {a b n : Int} (h1 : n < a) : hs a b n = false := by
  have : ¬ n ≥ a := by omega
  simp [hs, this]
theorem hs_gt {a b n : Int} (h1 : b < n) : hs a b n = false := by
  have : ¬ n ≤ b := by omega
  simp [hs, this]
theorem lo_le (a b : Int) : lo a b ≤ a ∧ lo a b ≤ b := by unfold lo; split <;> omega
theorem le_lo {a b m : Int} (h1 : m ≤ a) (h2 : m ≤ b) : m ≤ lo a b := by unfold lo; split <;> omega
theorem hi_ge (a b : Int) : a ≤ hi a b ∧ b ≤ hi a b := by unfold hi; split <;> omega
theorem hi_le {a b m : Int} (h1 : a ≤ m) (h2 : b ≤ m) : hi a b ≤ m := by unfold hi; split <;> omega
theorem lo_assoc (a c e : Int) : lo (lo a c) e = lo a (lo c e) := by
  have h1 := lo_le a c
  have h2 := lo_le (lo a c) e
  have h3 := lo_le c e
  have h4 := lo_le a (lo c e)
  have h5 : lo (lo a c) e ≤ lo a (lo c e) := le_lo (by omega) (le_lo (by omega) (by omega))
  have h6 : lo a (lo c e) ≤ lo (lo a c) e := le_lo (le_lo (by omega) (by omega)) (by omega)
  omega
theorem hi_assoc (a c e : Int) : hi (hi a c) e = hi a (hi c e) := by
  have h1 := hi_ge a c
  have h2 := hi_ge (hi a c) e
  have h3 := hi_ge c e
  have h4 := hi_ge a (hi c e)
  have h5 : hi a (hi c e) ≤ hi (hi a c) e := hi_le (by omega) (hi_le (by omega) (by omega))
  have h6 : hi (hi a c) e ≤ hi a (hi c e) := hi_le (hi_le (by omega) (by omega)) (by omega)
  omega
theorem lo_comm (a c : Int) : lo a c = lo c a := by unfold lo; split <;> split <;> omega
theorem hi_comm (a c : Int) : hi a c = hi c a := by unfold hi; split <;> split <;> omega
theorem lo_self (a : Int) : lo a a = a := by simp [lo]
theorem hi_self (a : Int) : hi a a = a := by simp [hi]
theorem lo_least {a b : Int} (h : b ≤ a) : lo a b = b := by unfold lo; split <;> omega
theorem hi_most {a b : Int} (h : a ≤ b) : hi a b = b := by unfold hi; split <;> omega
theorem jLaw_true {a b c d e f : Int} (h1 : -big ≤ a) (h2 : a ≤ b) (h3 : b ≤ big) (h4 : -big ≤ c) (h5 : c ≤ d) (h6 : d ≤ big) (h7 : -big ≤ e) (h8 : e ≤ f) (h9 : f ≤ big) : jLaw a b c d e f = true := by
  have hbig : big = 1099511627776 := rfl
  have l0 := lo_le a c
  have l1 := lo_le (lo a c) e
  have l2 : -big ≤ lo (lo a c) e := le_lo (le_lo h1 h4) h7
  have u0 := hi_ge b d
  have u1 := hi_ge (hi b d) f
  have u2 : hi (hi b d) f ≤ big := hi_le (hi_le h3 h6) h9
  have w1 : w (lo (lo a c) e - 1) = lo (lo a c) e - 1 := w_id (by omega) (by omega)
  have w2 : w (hi (hi b d) f + 1) = hi (hi b d) f + 1 := w_id (by omega) (by omega)
  unfold jLaw
  simp only [w1, w2, same_of (lo_assoc a c e) (hi_assoc b d f), same_of (lo_comm a c) (hi_comm b d), same_of (lo_self a) (hi_self b),
    same_of (lo_least h1) (hi_most h3), hs_of (show lo (lo a c) e ≤ a by omega) (show a ≤ hi (hi b d) f by omega), hs_of (show lo (lo a c) e ≤ d by omega) (show d ≤ hi (hi b d) f by omega),
    hs_of (show lo (lo a c) e ≤ e by omega) (show e ≤ hi (hi b d) f by omega), hs_lt (show lo (lo a c) e - 1 < lo (lo a c) e by omega), hs_gt (show hi (hi b d) f < hi (hi b d) f + 1 by omega), Bool.not_true, Bool.not_false, cond_true, cond_false]

theorem joins_true (a0 a1 b0 b1 c0 c1 : Int) (h : AHeap) : ∃ h', R 4 [S a0 a1, S b0 b1, S c0 c1] h = some ([.bool true], h') := by
  refine law_spec t1_ok 60 rfl (fn := Try.f4) rfl rfl ?_
  refine (joins_goB a0 a1 b0 b1 c0 c1 h).trans ?_
  obtain ⟨h1, h2, h3⟩ := made_range a0 a1
  obtain ⟨h4, h5, h6⟩ := made_range b0 b1
  obtain ⟨h7, h8, h9⟩ := made_range c0 c1
  exact jLaw_true h1 h2 h3 h4 h5 h6 h7 h8 h9

end Go.Proofs.Ytdggbficiakbhaa
