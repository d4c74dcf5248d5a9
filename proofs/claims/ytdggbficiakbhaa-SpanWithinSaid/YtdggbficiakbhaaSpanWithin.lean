/- The statement SpanWithin holds: for every input the law returns true, and each argument reads behind the call as it read before. No condition. -/
import Derived.Test.YtdggbficiakbhaaSpanArgs
namespace Go.Proofs.Ytdggbficiakbhaa
open Go.Agm
open Go.ChangeShapes Go.WideShapes Go.ChangeAt Go.RowKit

set_option maxRecDepth 100000 in
theorem SpanWithin_lifted (os : Os) (started : os.Started) (H : Type) (enc : TypeId × Value → H) :
    ReturnsInHanded {} Try.checked os 3 .any (Rows.spanWithinSpec.pre6 enc Try.prog Try.f3 Rows.spanWithinRow.domain false) (Rows.spanWithinSpec.post enc Try.prog Try.f3 false true false false) := by
  refine returnsInHanded_of_change_shaped (C := Try.checked) Try.own started (by kernel_rfl) Try.func3
    (ChangeSpec.witness6 (enc := enc) (C := Try.checked) false ⟨#[], #[S 0 0, I 0, S 0 0], []⟩ 8 (by kernel_rfl) (by kernel_rfl) (by kernel_rfl) (by kernel_rfl)) ?_
  intro W base args ds gs before hval0 hW hcnd _ hshape _
  have hval : ∀ (j : Nat) t v, Try.f3.params[j]? = some t → args[j]? = some v → Value.okWide Try.prog W .any base t v := hval0
  have hW' := hW
  obtain ⟨p, q, hA0, hV, _, _, _⟩ := hW
  have hA : DataW.TrodAll enc Try.prog W 0 (fun _ => true) true Try.f3.params.toList args.toList ds p := hA0
  rw [Try.params3] at hA hval
  obtain ⟨v0, v1, v2, d0, d1, d2, p0, p1, p2, rfl, rfl, rfl, h0, h1, h2⟩ := trodAll_three hA
  obtain ⟨rfl, rfl⟩ := trodVars_none hV
  obtain ⟨a0, a1, rfl⟩ := arg_two (hval 0 22 v0 rfl rfl)
  obtain ⟨n, rfl, _⟩ := arg_int (k := .i64) (by kernel_rfl) (hval 1 3 v1 rfl rfl)
  obtain ⟨b0, b1, rfl⟩ := arg_two (hval 2 22 v2 rfl rfl)
  obtain ⟨h', e⟩ := within_true a0 a1 n b0 b1 (heapOf Try.prog.globals.size [])
  exact law_lifted (C := Try.checked) (T := tb) (bl := []) (Checked.mixed _) tb_prims (globals_lt hshape (by kernel_rfl)) (fun _ h => by simp at h) (by kernel_rfl)
    (.cons (VL_S a0 a1) (.cons (.int _ n) (.cons (VL_S b0 b1) .nil))) e Try.laidOut (tb := 4) (by kernel_rfl) rfl (by kernel_rfl) rfl hW' rfl

theorem SpanWithin_holds : Rows.SpanWithinSaid :=
  OpenClaim.holds_of_wide 3 Try.f3 rfl rfl rfl rfl rfl rfl rfl ⟨rfl, rfl, rfl, rfl, rfl⟩ rfl rfl rfl rfl rfl (by kernel_rfl) Try.func3 (by kernel_rfl)
    (of_decide_eq_true (by kernel_rfl)) (by unfold Func.isWrapper; first | (rw [if_pos (by decide +kernel)]; kernel_rfl) | (rw [if_neg (by decide +kernel)]; exact ⟨rfl, rfl⟩))
    (fun os started H enc _ => SpanWithin_lifted os started H enc)

#print axioms SpanWithin_holds
end Go.Proofs.Ytdggbficiakbhaa
