/- Times answers some number, whatever the numbers; the products in range. No condition. -/
import Derived.Test.YtdggbficiakbhaaSpanX
namespace Go.Proofs.Ytdggbficiakbhaa
open Go.Agm

theorem wrap_lt (n : Int) : w n < 9223372036854775808 := by
  have e : IntKind.i64.wrap n = if n % 18446744073709551616 ≥ 9223372036854775808 then n % 18446744073709551616 - 18446744073709551616 else n % 18446744073709551616 := by
    simp [IntKind.wrap, IntKind.bits, IntKind.signed]
  show IntKind.i64.wrap n < _
  rw [e]
  split <;> omega

theorem loop_any (neg : Bool) (a n p : Int) : ∃ z, ∀ h, go Try.prog tb 19 Try.f19 todo7 (fr7 a n p neg) h = some ([I z], h) := by
  by_cases hlt : n < 9223372036854775808
  · exact loop_some neg n.toNat a n p (Nat.le_refl _) hlt
  · have hn : n > 0 := by omega
    have z0 : ∀ a' m p', ∃ z, ∀ h, go Try.prog tb 19 Try.f19 todo7 (fr7 a' (w m) p' neg) h = some ([I z], h) := fun a' m p' => loop_some neg (w m).toNat a' (w m) p' (Nat.le_refl _) (wrap_lt m)
    have key : ∃ z, ∀ h, segK Try.prog (tb.ft 19) (optM (run Try.prog tb)) Try.f19 [7] 60 todo7 (fr7 a n p neg) (fun t fr h => go Try.prog tb 19 Try.f19 t fr h) h = some ([I z], h) := by
      simp only [step7, hn, decide_true, cond_true]
      cases (n.tmod 2 == 1) <;> simp only [cond_true, cond_false]
      · cases decide (p > big) <;> simp only [cond_true, cond_false]
        · cases decide (a > big) <;> simp only [cond_true, cond_false]
          · exact z0 _ _ _
          · cases decide (n > 1) <;> simp only [cond_true, cond_false]
            · exact z0 _ _ _
            · exact z0 _ _ _
        · exact z0 _ _ _
      · cases decide (w (p + a) > big) <;> simp only [cond_true, cond_false]
        · cases decide (a > big) <;> simp only [cond_true, cond_false]
          · exact z0 _ _ _
          · cases decide (n > 1) <;> simp only [cond_true, cond_false]
            · exact z0 _ _ _
            · exact z0 _ _ _
        · exact z0 _ _ _
    obtain ⟨z, hz⟩ := key
    exact ⟨z, fun h => go_seg (cuts := [7]) 60 (hz h)⟩

theorem times_any (a n : Int) : ∃ z, ∀ h, R 19 [I a, I n] h = some ([I z], h) := by
  have key : ∃ z, ∀ h, segK Try.prog (tb.ft 19) (optM (run Try.prog tb)) Try.f19 [7] 60 [.code (Try.f19.body.getD .skip)] (startF Try.f19 [I a, I n]) (fun t fr h => go Try.prog tb 19 Try.f19 t fr h) h = some ([I z], h) := by
    simp only [start7]
    cases (decide (a < 0)) <;> cases (decide (n < 0)) <;> simp only [cond_true, cond_false] <;> exact loop_any _ _ _ _
  obtain ⟨z, hz⟩ := key
  exact ⟨z, fun h => run_go (fn := Try.f19) rfl rfl rfl (go_seg (cuts := [7]) 60 (hz h))⟩

noncomputable def timesR (a n : Int) : Int := Classical.choose (times_any a n)
theorem timesR_run (a n : Int) (h : AHeap) : R 19 [I a, I n] h = some ([I (timesR a n)], h) := Classical.choose_spec (times_any a n) h
theorem timesR_cap {a n : Int} (ha : -big ≤ a) (ha' : a ≤ big) (hn : -2147483648 ≤ n) (hn' : n ≤ 2147483648) : timesR a n = cap (a * n) := by
  have h1 := timesR_run a n (heapOf 0 [])
  have h2 := h1.symm.trans (times_ref ha ha' hn hn' (heapOf 0 []))
  injection h2 with h2
  injection h2 with h2 _
  injection h2 with h2 _
  injection h2 with _ h2
  rw [h2]
  exact prodN_cap a n

theorem prod_any (a n : Int) : ∃ z, ∀ h, R 37 [I a, I n] h = some ([I z], h) := by
  have key : ∃ z, ∀ h, runK Try.prog tb 60 37 [I a, I n] h = some ([I z], h) := by
    simp only [times_eq]
    cases (n == 0) <;> simp only [cond_true, cond_false]
    · cases (a == 0) <;> simp only [cond_true, cond_false]
      · cases decide (a > 1073741824) <;> simp only [cond_true, cond_false]
        · cases decide (a < -1073741824) <;> simp only [cond_true, cond_false]
          · exact ⟨_, fun _ => rfl⟩
          · cases decide (n > 1048576) <;> simp only [cond_true, cond_false]
            · cases decide (n < -1048576) <;> simp only [cond_true, cond_false]
              · exact ⟨_, fun _ => rfl⟩
              · cases (decide (a > 0) == decide (n > 0)) <;> exact ⟨_, fun _ => rfl⟩
            · cases (decide (a > 0) == decide (n > 0)) <;> exact ⟨_, fun _ => rfl⟩
        · cases decide (n > 1048576) <;> simp only [cond_true, cond_false]
          · cases decide (n < -1048576) <;> simp only [cond_true, cond_false]
            · exact ⟨_, fun _ => rfl⟩
            · cases (decide (a > 0) == decide (n > 0)) <;> exact ⟨_, fun _ => rfl⟩
          · cases (decide (a > 0) == decide (n > 0)) <;> exact ⟨_, fun _ => rfl⟩
      · exact ⟨_, fun _ => rfl⟩
    · exact ⟨_, fun _ => rfl⟩
  obtain ⟨z, hz⟩ := key
  exact ⟨z, fun h => run_of (n := 60) (hz h)⟩
noncomputable def prodR (a n : Int) : Int := Classical.choose (prod_any a n)
theorem prodR_run (a n : Int) (h : AHeap) : R 37 [I a, I n] h = some ([I (prodR a n)], h) := Classical.choose_spec (prod_any a n) h
theorem prodR_cap {a n : Int} (ha : -big ≤ a) (ha' : a ≤ big) (hn : -2147483648 ≤ n) (hn' : n ≤ 2147483648) : prodR a n = cap (a * n) := by
  have h1 := prodR_run a n (heapOf 0 [])
  have h2 := h1.symm.trans (times_cap ha ha' hn hn' (heapOf 0 []))
  injection h2 with h2
  injection h2 with h2 _
  injection h2 with h2 _
  injection h2 with _ h2

def a2 (g : Int → Int → Value) : Ans | [.int .i64 a, .int .i64 b] => some [g a b] | _ => none
theorem a2_ok {f : Nat} {g : Int → Int → Value} (ht : ∀ a b h, R f [I a, I b] h = some ([g a b], h)) (xs : List Value) (rs : List Value) (h : AHeap) (e : a2 g xs = some rs) : R f xs h = some (rs, h) := by
  unfold a2 at e; split at e <;> simp at e; subst e; exact ht _ _ h

noncomputable def t2 : List (Nat × Ans) := [(37, a2 fun a n => I (prodR a n))]
theorem t2_ok : CLe (asks t2) R := asks_cons (a2_ok prodR_run) asks_nil
theorem mul_run (a b n : Int) (h : AHeap) : R 22 [S a b, I n] h = some ([S (lo (prodR a n) (prodR b n)) (hi (prodR a n) (prodR b n))], h) :=
  run_spec t2_ok 60 rfl (fn := Try.f22) rfl rfl (by kernel_rfl)
theorem clamp_run (a b n : Int) (h : AHeap) : R 23 [S a b, I n] h = some ([S (lo (hi a 0) n) (lo (hi b 0) n)], h) := run_of (n := 60) (by kernel_rfl)
theorem one_run (n : Int) (h : AHeap) : R 26 [I n] h = some ([S (cap n) (cap n)], h) := run_of (n := 60) (by kernel_rfl)

noncomputable def t3 : List (Nat × Ans) := (19, a2 fun a n => I (timesR a n)) :: (20, aSS fun a b c d => S (cap (w (a + c))) (cap (w (b + d)))) :: (21, aSS fun a b c d => S (cap (w (a - d))) (cap (w (b - c)))) ::
  (22, aS1 fun a b n => S (lo (prodR a n) (prodR b n)) (hi (prodR a n) (prodR b n))) :: (23, aS1 fun a b n => S (lo (hi a 0) n) (lo (hi b 0) n)) :: (26, a1 fun n => S (cap n) (cap n)) :: (25, a1 fun n => I (cap n)) :: t1
theorem t3_ok : CLe (asks t3) R := asks_cons (a2_ok timesR_run) (asks_cons (aSS_ok add_run) (asks_cons (aSS_ok sub_run) (asks_cons (aS1_ok mul_run) (asks_cons (aS1_ok clamp_run) (asks_cons (a1_ok one_run) (asks_cons (a1_ok cap_run) t1_ok))))))
end Go.Proofs.Ytdggbficiakbhaa
