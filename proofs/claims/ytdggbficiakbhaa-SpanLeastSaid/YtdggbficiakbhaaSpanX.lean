/- Times always answers some number. No condition. -/
import Derived.Test.YtdggbficiakbhaaSpanV
namespace Go.Proofs.Ytdggbficiakbhaa
open Go.Agm

theorem loop_some (neg : Bool) : ∀ (m : Nat) (a n p : Int), n.toNat ≤ m → n < 9223372036854775808 → ∃ z, ∀ h, go Try.prog tb 19 Try.f19 todo7 (fr7 a n p neg) h = some ([I z], h) := by
  intro m
  have done : ∀ a n p : Int, ¬ n > 0 → ∃ z, ∀ h, go Try.prog tb 19 Try.f19 todo7 (fr7 a n p neg) h = some ([I z], h) := by
    intro a n p hn
    refine ⟨bif neg then w (0 - p) else p, fun h => go_seg (cuts := [7]) 60 ((step7 a n p neg h _).trans ?_)⟩
    simp only [hn, decide_false, cond_false]
    cases neg <;> rfl
  induction m with
  | zero => intro a n p hm _; exact done a n p (by omega)
  | succ m ih =>
    intro a n p hm hlt
    by_cases hn : n > 0
    · have e4 : n.tdiv 2 = n / 2 := Int.tdiv_eq_ediv_of_nonneg (by omega)
      have e5 : w (n.tdiv 2) = n / 2 := by rw [e4]; exact w_id (by omega) (by omega)
      have z0 : ∀ a' p', ∃ z, ∀ h, go Try.prog tb 19 Try.f19 todo7 (fr7 a' (w (Int.tdiv 0 2)) p' neg) h = some ([I z], h) := fun a' p' => done a' 0 p' (by omega)
      have z1 : ∀ a' p', ∃ z, ∀ h, go Try.prog tb 19 Try.f19 todo7 (fr7 a' (w (n.tdiv 2)) p' neg) h = some ([I z], h) := by
        intro a' p'
        rw [e5]
        exact ih a' (n / 2) p' (by omega) (by omega)
      have key : ∃ z, ∀ h, segK Try.prog (tb.ft 19) (optM (run Try.prog tb)) Try.f19 [7] 60 todo7 (fr7 a n p neg) (fun t fr h => go Try.prog tb 19 Try.f19 t fr h) h = some ([I z], h) := by
        simp only [step7, hn, decide_true, cond_true]
        cases (n.tmod 2 == 1) <;> simp only [cond_true, cond_false]
        · cases decide (p > big) <;> simp only [cond_true, cond_false]
          · cases decide (a > big) <;> simp only [cond_true, cond_false]
            · exact z1 _ _
            · cases decide (n > 1) <;> simp only [cond_true, cond_false]
              · exact z1 _ _
              · exact z0 _ _
          · exact z0 _ _
        · cases decide (w (p + a) > big) <;> simp only [cond_true, cond_false]
          · cases decide (a > big) <;> simp only [cond_true, cond_false]
            · exact z1 _ _
            · cases decide (n > 1) <;> simp only [cond_true, cond_false]
              · exact z1 _ _
              · exact z0 _ _
          · exact z0 _ _
      obtain ⟨z, hz⟩ := key
      exact ⟨z, fun h => go_seg (cuts := [7]) 60 (hz h)⟩
    · exact done a n p hn

end Go.Proofs.Ytdggbficiakbhaa
