/- The first of a row that a closure wants. No condition. -/
import Derived.Test.YtdggbficiakbhaaHoldD
namespace Go.Proofs.Ytdggbficiakbhaa
open Go.Agm
variable {w0 : World}

theorem ok42 : CallsOk Try.prog w0 (callsOf Try.prog.globals.size [con42]) := callsOf_ok fun c hc => by
  simp only [List.mem_singleton] at hc
  subst hc
  exact con42_ok

theorem loop50 (l : List Int) (t : Int) (rw : Bool) (hl : l.length < 1000000000) : ∀ k i : Nat, i + k = l.length →
    Agm.Sem Try.prog w0 (Try.prog.globals.size + nm50.flags.length) Try.f50 (retT Try.prog.globals.size nm50 fun rs' h' => rs' = [I (idxF t l 0)] ∧ h' = hp50 t (ints l) rw) todo50 (fr50 l.length (i : Int)) (hp50 t (ints l) rw) ∨ idxF t l 0 ≠ idxF t (l.drop i) i := by
  have hpl : plainB (.cells (ints l) rw) := plain_ints l
  intro k
  induction k with
  | zero =>
    intro i hi
    by_cases hx : idxF t l 0 = idxF t (l.drop i) i
    · left
      refine seg_sem2 (F := ft50) mixed ok42 (fun _ _ _ => canonT_sem) [2] 60 ((head50 l.length i t (ints l) rw _ _).mpr ?_)
      have : ¬ ((i : Int) < (l.length : Int)) := by omega
      simp only [this, decide_false, cond_false]
      refine ⟨⟨hpl, trivial⟩, ?_, by trivial⟩
      rw [hx, List.drop_eq_nil_of_le (by omega)]
      rfl
    · exact .inr hx
  | succ k ih =>
    intro i hi
    by_cases hx : idxF t l 0 = idxF t (l.drop i) i
    · left
      refine seg_sem2 (F := ft50) mixed ok42 (fun _ _ _ => canonT_sem) [2] 60 ((head50 l.length i t (ints l) rw _ _).mpr ?_)
      have h1 : (i : Int) < (l.length : Int) := by omega
      have h2 : (0 : Int) ≤ (i : Int) := by omega
      have hlt : i < l.length := by omega
      have h3 : 0 + (i : Int).toNat * 1 = i := by simp
      have hd : l.drop i = l[i] :: l.drop (i + 1) := List.drop_eq_getElem_cons hlt
      rw [hd] at hx
      simp only [h1, h2, decide_true, cond_true, Bool.and_self, h3, okI_ints hlt, intO_ints hlt]
      refine ⟨⟨trivial, trivial, trivial⟩, ?_⟩
      cases hc : (l[i] == t) with
      | true =>
        simp only [cond_true]
        refine ⟨⟨hpl, trivial⟩, ?_, by trivial⟩
        rw [hx]
        simp only [idxF, hc, cond_true]
      | false =>
        simp only [cond_false]
        refine ⟨⟨hpl, trivial⟩, ?_⟩
        simp only [idxF, hc, cond_false] at hx
        have hw : w ((i : Int) + 1) = ((i + 1 : Nat) : Int) := by rw [w_id (by omega) (by omega)]; omega
        rw [hw]
        rcases ih (i + 1) (by omega) with h | h
        · exact h
        · exact absurd (by rw [hx]; congr 1) h
    · exact .inr hx

theorem con50_ok : con50.ok Try.prog w0 := by
  intro args bs p rs out e hp
  simp only [con50] at e
  split at e <;> first | (simp at e; done) | skip
  split at e <;> first | (simp at e; done) | skip
  rename_i s f t cs rw _ _ n t' hs ht
  cases hq : isF1 f 42 0 with
  | false => rw [hq] at e; simp at e
  | true =>
    rw [hq] at e
    simp only [cond_true, Option.some.injEq, Prod.mk.injEq] at e
    obtain ⟨rfl, rfl, rfl⟩ := e
    obtain ⟨h1, h2, h3⟩ := hp
    rw [slN_eq hs, intV_eq ht, isF1_eq hq]
    rw [h1] at h2 ⊢
    rw [ints_len] at h2
    generalize unI cs = l at h2 ⊢
    subst h2
    rw [unI_ints]
    refine con_body (fn := Try.f50) (cd := Try.f50.body.getD .skip) (nt := nm50) Try.func50 (by kernel_rfl) rfl ?_
    refine seg_sem2 (F := ft50) mixed ok42 (fun _ _ _ => canonT_sem) [2] 60 ((start50 l.length t' (ints l) rw _ _).mpr ⟨⟨plain_ints l, trivial⟩, ?_⟩)
    rcases loop50 (w0 := w0) l t' rw h3 l.length 0 (by omega) with h | h
    · exact h
    · exact absurd rfl h
end Go.Proofs.Ytdggbficiakbhaa
